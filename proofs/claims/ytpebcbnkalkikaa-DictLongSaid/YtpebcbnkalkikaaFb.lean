/- New blocks. -/
import Derived.Test.YtpebcbnkalkikaaFa
import Derived.Deep.AppendSrc
import Derived.Laws.MakeOwn
import Derived.Laws.Tables
import Derived.Laws.IdiomStrings
set_option linter.unusedVariables false
namespace Go.VS

section
variable {S : Cells} {G : Lay} {w : World}
/-- The cells of elements of s cells each. -/
def Flat (S : Cells) (G : Lay) (w : World) (s : Nat) : List AV → List Value → Prop
  | [], vs => vs = []
  | x :: xs, vs => ∃ u r, vs = u ++ r ∧ u.length = s ∧ (∀ c ∈ u, c.oneCell' = true) ∧ Rep S G w x u ∧ Flat S G w s xs r

theorem Flat.length {s : Nat} : ∀ {xs : List AV} {vs : List Value}, Flat S G w s xs vs → vs.length = xs.length * s
  | [], _, h => by simp only [Flat] at h; subst h; simp
  | x :: xs, _, h => by
    obtain ⟨u, r, rfl, h1, _, _, hr⟩ := h
    simp [hr.length, h1, Nat.add_mul]
    omega

theorem Flat.one {s : Nat} : ∀ {xs : List AV} {vs : List Value}, Flat S G w s xs vs → ∀ c ∈ vs, c.oneCell' = true
  | [], _, h => by simp only [Flat] at h; subst h; simp
  | x :: xs, _, h => by
    obtain ⟨u, r, rfl, h1, h2, _, hr⟩ := h
    intro c hc
    rcases List.mem_append.1 hc with hc | hc
    · exact h2 c hc
    · exact hr.one c hc

theorem Flat.append {s : Nat} : ∀ {xs ys : List AV} {us vs : List Value}, Flat S G w s xs us → Flat S G w s ys vs → Flat S G w s (xs ++ ys) (us ++ vs)
  | [], ys, us, vs, h, k => by simp only [Flat] at h; subst h; simpa using k
  | x :: xs, ys, us, vs, h, k => by
    obtain ⟨u, r, rfl, h1, h2, h3, hr⟩ := h
    exact ⟨u, r ++ vs, by simp, h1, h2, h3, hr.append k⟩

theorem Flat.mono {S' : Cells} {G' : Lay} {w' : World} (g : Grow S G w S' G' w') {s : Nat} : ∀ {xs : List AV} {vs : List Value}, Flat S G w s xs vs → Flat S' G' w' s xs vs
  | [], _, h => h
  | x :: xs, _, ⟨u, r, e, h1, h2, h3, hr⟩ => ⟨u, r, e, h1, h2, Rep.mono g x u h3, hr.mono g⟩

theorem At.append {b : Nat} : ∀ {us vs : List Value} {o : Nat}, At w b o us → At w b (o + us.length) vs → At w b o (us ++ vs)
  | [], vs, o, _, h => by simpa using h
  | u :: us, vs, o, h, k => ⟨h.1, At.append h.2 (by simpa [Nat.add_assoc, Nat.add_comm 1] using k)⟩

theorem At.left {b : Nat} : ∀ {us vs : List Value} {o : Nat}, At w b o (us ++ vs) → At w b o us
  | [], _, _, _ => trivial
  | u :: us, vs, o, h => ⟨h.1, At.left h.2⟩

theorem At.right {b : Nat} : ∀ {us vs : List Value} {o : Nat}, At w b o (us ++ vs) → At w b (o + us.length) vs
  | [], _, _, h => by simpa using h
  | u :: us, vs, o, h => by
    have := At.right (us := us) h.2
    simpa [Nat.add_assoc, Nat.add_comm 1] using this

theorem Flat.els {s b : Nat} : ∀ {xs : List AV} {vs : List Value} {o : Nat}, Flat S G w s xs vs → At w b o vs → Els S G w b s o xs
  | [], _, _, _, _ => by simp [Els]
  | x :: xs, _, o, h, hA => by
    obtain ⟨u, r, rfl, h1, h2, h3, hr⟩ := h
    simp only [Els]
    refine ⟨⟨u, h1, hA.left, h3⟩, hr.els ?_⟩
    have := hA.right
    rwa [h1] at this

mutual
theorem Rep.ones : ∀ (x : AV) (u : List Value), Rep S G w x u → ∀ c ∈ u, c.oneCell' = true
  | .undef, _, h => by simpa only [Rep] using h
  | .bool _, _, h => by simp only [Rep] at h; subst h; simp [Value.oneCell']
  | .int _ _, _, h => by simp only [Rep] at h; subst h; simp [Value.oneCell']
  | .flt _ _, _, h => by simp only [Rep] at h; subst h; simp [Value.oneCell']
  | .cpx _ _ _, _, h => by simp only [Rep] at h; subst h; simp [Value.oneCell']
  | .str _, _, h => by simp only [Rep] at h; subst h; simp [Value.oneCell']
  | .nilptr, _, h => by simp only [Rep] at h; subst h; simp [Value.oneCell']
  | .ptr id off, _, h => by simp only [Rep] at h; obtain ⟨b, _, rfl⟩ := h; simp [Value.oneCell']
  | .lptr _ _, _, h => by simp only [Rep] at h
  | .eptr .none s xs i off, _, h => by simp only [Rep] at h; obtain ⟨b, o, rfl, _⟩ := h; simp [Value.oneCell']
  | .eptr .full _ _ _ _, _, h => by simp only [Rep] at h
  | .eptr (.own _) _ _ _ _, _, h => by simp only [Rep] at h
  | .eptr (.of _ _ _ _) _ _ _ _, _, h => by simp only [Rep] at h
  | .eptr (.ofg _ _ _ _) _ _ _ _, _, h => by simp only [Rep] at h
  | .sl .none s xs, _, h => by
    simp only [Rep] at h
    rcases h with ⟨rfl, _⟩ | ⟨b, o, cap, rfl, _⟩ <;> simp [Value.oneCell']
  | .sl .full s xs, _, h => by
    simp only [Rep] at h
    rcases h with ⟨rfl, _⟩ | ⟨b, o, rfl, _⟩ <;> simp [Value.oneCell']
  | .sl (.own _) _ _, _, h => by simp only [Rep] at h
  | .sl (.of _ _ _ _) _ _, _, h => by simp only [Rep] at h
  | .sl (.ofg _ _ _ _) _ _, _, h => by simp only [Rep] at h
  | .lbox _, _, h => by simp only [Rep] at h
  | .map none, _, h => by simp only [Rep] at h; subst h; simp [Value.oneCell']
  | .map (some id), _, h => by simp only [Rep] at h; obtain ⟨b, _, rfl⟩ := h; simp [Value.oneCell']
  | .func f caps, _, h => by simp only [Rep] at h; obtain ⟨c, rfl, _⟩ := h; simp [Value.oneCell']
  | .nilfunc, _, h => by simp only [Rep] at h; subst h; simp [Value.oneCell']
  | .seq f s xs, _, h => by simp only [Rep] at h; obtain ⟨b, sv, rfl, _⟩ := h; simp [Value.oneCell']
  | .iface t x, _, h => by simp only [Rep] at h; obtain ⟨v, rfl, _⟩ := h; simp [Value.oneCell']
  | .nilif, _, h => by simp only [Rep] at h; subst h; simp [Value.oneCell']
  | .agg cs, _, h => by simp only [Rep] at h; exact Reps.ones cs _ h
  | .tup _, _, h => by simp only [Rep] at h
theorem Reps.ones : ∀ (cs : List AV) (u : List Value), Reps S G w cs u → ∀ c ∈ u, c.oneCell' = true
  | [], _, h => by simp only [Reps] at h; subst h; simp
  | c :: cs, _, h => by
    simp only [Reps] at h
    obtain ⟨v, r, rfl, _, _, h2, h3⟩ := h
    intro d hd
    rcases List.mem_cons.1 hd with rfl | hd
    · exact Rep.ones c _ h2 _ (by simp)
    · exact Reps.ones cs _ h3 d hd
end

theorem Els.flat {b s : Nat} : ∀ {xs : List AV} {o : Nat}, Els S G w b s o xs → ∃ vs, Flat S G w s xs vs ∧ At w b o vs
  | [], o, _ => ⟨[], rfl, trivial⟩
  | x :: xs, o, h => by
    simp only [Els] at h
    obtain ⟨⟨u, h1, hA, h3⟩, hE⟩ := h
    obtain ⟨r, hr, hAr⟩ := Els.flat hE
    exact ⟨u ++ r, ⟨u, r, rfl, h1, Rep.ones x u h3, h3, hr⟩, hA.append (by rw [h1]; exact hAr)⟩

theorem at_of_block {b : Nat} {c : Array Value} {e : TypeId} {fr : Nat × Nat} (h : w.heap[b]? = some (.cells c e fr)) : ∀ (vs : List Value) (o : Nat), (∀ j v, vs[j]? = some v → c[o + j]? = some v) → At w b o vs
  | [], _, _ => trivial
  | v :: vs, o, hj => by
    refine ⟨?_, at_of_block h vs (o + 1) (fun j u hu => ?_)⟩
    · have := hj 0 v (by simp)
      simp [cellAt, World.cell?, h]
      simpa using this
    · have := hj (j + 1) u (by simpa using hu)
      rwa [show o + 1 + j = o + (j + 1) by omega]
end

/-- A new block of the call's own, as something new. -/
def Mem.alloc (M : Mem) (w' : World) (b : Nat) (k : Key) : Mem := { M with own := fun x => if x = b then some k else M.own x, w := w' }

section
variable {slots : List Nat} {n : Nat} {M : Mem} {st : St} {a : Act}

/-- A world that is as another was, with a block more. -/
structure Plus (w w' : World) (o : Go.Obj) : Prop where
  heap : w'.heap = w.heap.push o
  os : w'.os = w.os
  tape : w'.tape = w.tape
  output : w'.output = w.output

theorem Plus.alloc (w : World) (o : Go.Obj) : Plus w (w.alloc o) o := ⟨rfl, rfl, rfl, rfl⟩
theorem Plus.drewAlloc (w : World) (o : Go.Obj) : Plus w (w.drew.alloc o) o := ⟨rfl, rfl, rfl, rfl⟩

theorem Plus.old {w w' : World} {o : Go.Obj} (h : Plus w w' o) {b : Nat} (hb : b < w.heap.size) : w'.heap[b]? = w.heap[b]? := by
  rw [h.heap, Array.getElem?_push_lt hb, Array.getElem?_eq_getElem hb]

theorem Plus.new {w w' : World} {o : Go.Obj} (h : Plus w w' o) : w'.heap[w.heap.size]? = some o := by
  rw [h.heap, Array.getElem?_push_size]

theorem alloc_evo (wf : M.Wf) {w' : World} {o : Go.Obj} (h : Plus M.w w' o) (k : Key) : Evo M (M.alloc w' M.w.heap.size k) where
  grow := ⟨fun _ _ h => h, fun _ _ h => h, fun b j hs => cellAt_of_heap (h.old (wf.slt hs)) j⟩
  size := by show _ ≤ w'.heap.size; rw [h.heap]; simp
  os := h.os
  tape := h.tape
  output := h.output
  same b hb _ := h.old hb
  acq b hb ho := by show (if b = _ then _ else _) = _; rw [if_neg (by omega)]; exact ho
  snew b j hs := .inl hs

theorem alloc_wf (wf : M.Wf) {w' : World} {o : Go.Obj} (h : Plus M.w w' o) {k : Key} : (M.alloc w' M.w.heap.size k).Wf where
  sdom b j hs := by show (cellAt w' b j).isSome = true; rw [cellAt_of_heap (h.old (wf.slt hs))]; exact wf.sdom b j hs
  odom b q hq := by
    show b < w'.heap.size
    rw [h.heap, Array.size_push]
    simp only [Mem.alloc] at hq
    split at hq
    · omega
    · have := wf.odom b q hq; omega
  gown id b hb := by
    have hlt : b < M.w.heap.size := by rcases wf.gown id b hb with e | e <;> exact wf.odom b _ e
    show (if b = _ then _ else _) = _ ∨ (if b = _ then _ else _) = _
    rw [if_neg (by omega)]
    exact wf.gown id b hb

theorem alloc_pres (wf : M.Wf) {w' : World} {o : Go.Obj} (h : Plus M.w w' o) {k : Key} {b : Nat} {q : Key} (hq : M.own b = some q) : Pres M (M.alloc w' M.w.heap.size k) b :=
  have hlt := wf.odom b q hq
  ⟨by show (if b = _ then _ else _) = _; rw [if_neg (by omega)], h.old hlt, fun _ h => h⟩

theorem alloc_fr (h : FR M slots n st a) {w' : World} {o : Go.Obj} (hp : Plus M.w w' o) (k : Key) : FR (M.alloc w' M.w.heap.size k) slots n st a :=
  h.evolve (alloc_evo h.wf hp k).grow (alloc_wf h.wf hp) (fun _ _ h => h) (fun b q hb _ => alloc_pres h.wf hp hb)

theorem alloc_own {w' : World} {k : Key} {b : Nat} : (M.alloc w' b k).own b = some k := by simp [Mem.alloc]

/-- A new array: its first elements are xs. -/
theorem new_arr (wf : M.Wf) {w' : World} {c : Array Value} {e : TypeId} {fr : Nat × Nat} (hp : Plus M.w w' (.cells c e fr)) {key : Key} {s cap : Nat} {xs : List AV} {vs : List Value}
    (hF : Flat M.S M.G M.w s xs vs) (hc : ∀ (j : Nat) (v : Value), vs[j]? = some v → c[j]? = some v) (hcap : xs.length ≤ cap) (hsz : cap * s ≤ c.size) (hfr : ∀ j, j < c.size → (decide (fr.1 ≤ j) && decide (j < fr.2)) = false)
    (h0 : xs = [] → cap = 0) : OwnArr (M.alloc w' M.w.heap.size key) key true s xs (.slice (some ⟨M.w.heap.size, 0, none⟩) xs.length cap) := by
  by_cases hx : xs = []
  · subst hx
    rw [h0 rfl]
    exact .inl ⟨rfl, .inr ⟨_, _, rfl⟩⟩
  · refine .inr ⟨hx, M.w.heap.size, 0, cap, rfl, alloc_own, hcap, ?_, ?_, fun _ j hs => ?_, fun hm => by simp at hm⟩
    · refine (hF.mono (alloc_evo wf hp key).grow).els ?_
      exact at_of_block (show w'.heap[M.w.heap.size]? = _ from hp.new) vs 0 (by simpa using hc)
    · exact ⟨c, e, fr, hp.new, by simpa using hsz, hfr⟩
    · exact absurd (wf.slt hs) (by simp)

theorem alloc_new_r (hn : NoR M) {w' : World} {b k j : Nat} (h : (M.alloc w' b (.r k)).own j = some (.r k)) : j = b := by
  simp only [Mem.alloc] at h
  split at h
  · assumption
  · exact absurd h (hn _ _)
end
end Go.VS
/- Operations: pieces; conversions of bytes; new slices. -/
set_option linter.unusedVariables false
namespace Go.VS

def chkOpt (slots : List Nat) : Option Operand → Option Ref → Bool
  | none, none => true
  | some o, some r => chkRef slots o r
  | _, _ => false

section
variable {P : Program} {CS : CallSem} {RP : FuncId → Option (List AV → Option AV)} {slots : List Nat} {n : Nat} {M : Mem} {st : St} {a : Act}

/-- A bound of a piece. -/
def BoundIs (v : Option Value) (k : Option Nat) : Prop :=
  match v, k with
  | none, none => True
  | some x, some j => ∃ q i, x = .int q i ∧ 0 ≤ i ∧ i.toNat = j
  | _, _ => False

theorem opt_bound (h : FR M slots n st a) {o : Option Operand} {r : Option Ref} (hc : chkOpt slots o r = true) {k : Option Nat} (hk : optIdx st r = some k) : BoundIs (o.map a.eval) k := by
  cases o with
  | none =>
    cases r with
    | none => simp only [optIdx, Option.some.injEq] at hk; subst hk; trivial
    | some r => simp [chkOpt] at hc
  | some o =>
    cases r with
    | none => simp [chkOpt] at hc
    | some r =>
      simp only [chkOpt] at hc
      obtain ⟨kt, ht⟩ := rd_trep h hc
      simp only [optIdx] at hk
      split at hk
      · rename_i q i hl
        rw [hl] at ht
        split at hk
        · rename_i h0
          simp only [Option.some.injEq] at hk
          subst hk
          exact ⟨q, i, ht.int, h0, rfl⟩
        · simp at hk
      · simp at hk

theorem bound_run {v : Value} {j y : Nat} {q : IntKind} {i : Int} (hv : v = .int q i) (h0 : 0 ≤ i) (hi : i.toNat = j) (hle : j ≤ y) (c : BoundsCode) (w : World) : (Instr.sliceBound v y c).run P w = .ok j w := by
  subst hv
  have : 0 ≤ i ∧ i ≤ (y : Int) := ⟨h0, by omega⟩
  simp [Instr.sliceBound, asIntOf, this, hi]

theorem bounds_run {isS : Bool} {len cap : Nat} {lo hi : Option Value} {l h : Option Nat} (hl : BoundIs lo l) (hh : BoundIs hi h) (h1 : l.getD 0 ≤ h.getD len) (h2 : h.getD len ≤ cap) (w : World) :
    (Instr.sliceBounds isS len cap lo hi none).run P w = .ok (l.getD 0, h.getD len, cap) w := by
  unfold Instr.sliceBounds
  cases lo with
  | none =>
    cases l with
    | some _ => exact hl.elim
    | none =>
      cases hi with
      | none =>
        cases h with
        | some _ => exact hh.elim
        | none => simp
      | some x =>
        cases h with
        | none => exact hh.elim
        | some j =>
          obtain ⟨q, i, e1, e2, e3⟩ := hh
          simp only [Option.getD_some] at h2
          simp [bound_run e1 e2 e3 h2]
  | some y =>
    cases l with
    | none => exact hl.elim
    | some k =>
      obtain ⟨q', i', e4, e5, e6⟩ := hl
      simp only [Option.getD_some] at h1
      cases hi with
      | none =>
        cases h with
        | some _ => exact hh.elim
        | none =>
          simp only [Option.getD_none] at h1
          simp [bound_run e4 e5 e6 h1]
      | some x =>
        cases h with
        | none => exact hh.elim
        | some j =>
          obtain ⟨q, i, e1, e2, e3⟩ := hh
          simp only [Option.getD_some] at h1 h2
          simp [bound_run e1 e2 e3 h2, bound_run e4 e5 e6 h1]

theorem extract_mk (l : List UInt8) (i j : Nat) : (ByteArray.mk l.toArray).extract i j = ⟨((l.drop i).take (j - i)).toArray⟩ := by
  apply ByteArray.ext
  simp

theorem view_sub {s : Nat} {ys : List AV} {v0 : Value} {vo : Nat} {xs : List AV} {A : Option Addr} {cap lo hi : Nat} (hw : View s ys v0 vo xs (.slice A xs.length cap)) (hb : ∃ b o C, (v0 = .slice (some ⟨b, o, none⟩) ys.length C ∧ (ys = [] → C = 0)) ∨ (v0 = .slice none 0 0 ∧ ys = []))
    (h1 : lo ≤ hi) (h2 : hi ≤ xs.length) (h3 : xs.length ≤ cap) :
    View s ys v0 (vo + lo) ((xs.drop lo).take (hi - lo)) (.slice (if cap = lo then A else A.map (·.add (lo * s))) (hi - lo) (cap - lo)) := by
  have hlen : ((xs.drop lo).take (hi - lo)).length = hi - lo := by simp; omega
  by_cases he : hi - lo = 0
  · refine .inr (.inl ⟨by rw [he]; simp, ?_⟩)
    rw [he]
    rcases hw with ⟨e0, e1, e2⟩ | ⟨e1, e2⟩ | ⟨b, o, C, cap', e1, e2, e3, e4, e5, e6⟩
    · subst e0 e1
      obtain ⟨b, o, C, ⟨hb, hC⟩ | ⟨hb, hy⟩⟩ := hb
      · rw [hb] at e2
        simp only [Value.slice.injEq] at e2
        obtain ⟨rfl, _, rfl⟩ := e2
        split
        · exact .inr ⟨b, o, _, rfl, fun e => by have := hC e; omega⟩
        · exact .inr ⟨b, o + lo * s, cap - lo, by simp [addr_add], fun e => by have := hC e; omega⟩
      · rw [hb] at e2
        simp only [Value.slice.injEq] at e2
        obtain ⟨rfl, hx, rfl⟩ := e2
        have : lo = 0 := by omega
        subst this
        exact .inl (by simp)
    · subst e1
      have : lo = 0 := by simp at h2; omega
      subst this
      rcases e2 with e2 | ⟨b, o, cap', e2, e7⟩
      · simp only [Value.slice.injEq] at e2
        obtain ⟨rfl, _, rfl⟩ := e2
        exact .inl (by simp)
      · simp only [Value.slice.injEq] at e2
        obtain ⟨rfl, _, rfl⟩ := e2
        refine .inr ⟨b, o, cap, ?_, e7⟩
        simp [addr_add]
    · simp only [Value.slice.injEq] at e4
      obtain ⟨rfl, _, rfl⟩ := e4
      have hz : ys = [] → C = 0 := by
        intro e
        obtain ⟨b', o', C', ⟨hb, hC⟩ | ⟨hb, hy⟩⟩ := hb
        · rw [e1] at hb
          simp only [Value.slice.injEq] at hb
          rw [hb.2.2]; exact hC e
        · rw [e1] at hb; simp at hb
      split
      · exact .inr ⟨b, o + vo * s, _, rfl, fun e => by have := hz e; omega⟩
      · exact .inr ⟨b, o + vo * s + lo * s, cap - lo, by simp [addr_add], fun e => by have := hz e; omega⟩
  · have hne : cap ≠ lo := by omega
    rw [if_neg hne]
    rcases hw with ⟨e0, e1, e2⟩ | ⟨e1, e2⟩ | ⟨b, o, C, cap', e1, e2, e3, e4, e5, e6⟩
    · subst e0 e1
      obtain ⟨b, o, C, ⟨hb, hC⟩ | ⟨hb, hy⟩⟩ := hb
      · rw [hb] at e2
        simp only [Value.slice.injEq] at e2
        obtain ⟨rfl, _, rfl⟩ := e2
        refine .inr (.inr ⟨b, o, _, cap - lo, hb, by rw [hlen]; omega, by rw [hlen]; simp, by rw [hlen]; simp [addr_add], by rw [hlen]; omega, by omega⟩)
      · subst hy; simp at h2; omega
    · subst e1; simp at h2; omega
    · simp only [Value.slice.injEq] at e4
      obtain ⟨rfl, _, rfl⟩ := e4
      refine .inr (.inr ⟨b, o, C, cap - lo, e1, by rw [hlen]; omega, ?_, by rw [hlen]; simp [addr_add, Nat.add_mul, Nat.add_assoc], by rw [hlen]; omega, by omega⟩)
      rw [hlen]
      conv => lhs; rw [e3]
      rw [List.drop_take, List.take_take, List.drop_drop]
      congr 1
      omega

theorem rep_sub {s : Nat} {xs : List AV} {A : Option Addr} {cap lo hi : Nat} (hR : RepV M.S M.G M.w (.sl .none s xs) (.slice A xs.length cap)) (h1 : lo ≤ hi) (h2 : hi ≤ xs.length) :
    RepV M.S M.G M.w (.sl .none s ((xs.drop lo).take (hi - lo))) (.slice (if cap = lo then A else A.map (·.add (lo * s))) (hi - lo) (cap - lo)) := by
  have hlen : ((xs.drop lo).take (hi - lo)).length = hi - lo := by simp; omega
  simp only [RepV, Rep, List.cons.injEq, and_true] at hR ⊢
  rcases hR with ⟨hv, rfl⟩ | ⟨b, o, cap', hv, hc, hS, hE⟩
  · simp only [Value.slice.injEq] at hv
    obtain ⟨rfl, _, rfl⟩ := hv
    simp at h2
    have : lo = 0 := by omega
    subst this h2
    exact .inl (by simp)
  · simp only [Value.slice.injEq] at hv
    obtain ⟨rfl, _, rfl⟩ := hv
    by_cases he : hi - lo = 0
    · refine .inr ?_
      have hz : (xs.drop lo).take (hi - lo) = [] := by rw [he]; simp
      rw [hz, he]
      split
      · exact ⟨b, o, _, rfl, by simp, by simp, by simp [Els]⟩
      · exact ⟨b, o + lo * s, cap - lo, by simp [addr_add], by simp, by simp, by simp [Els]⟩
    · have hne : cap ≠ lo := by omega
      rw [if_neg hne]
      refine .inr ⟨b, o + lo * s, cap - lo, by rw [hlen]; simp [addr_add], by rw [hlen]; omega, fun j hj => ?_, hE.sub lo (hi - lo)⟩
      rw [hlen] at hj
      have := hS (lo * s + j) (by
        have h6 : (lo + (hi - lo)) * s ≤ xs.length * s := Nat.mul_le_mul_right s (by omega)
        rw [Nat.add_mul] at h6; omega)
      rwa [← Nat.add_assoc] at this

theorem sliceAt_run {T e s : Nat} (hu : P.underlying T = some (.slice e)) (hs : SizeIs P e s) {A : Option Addr} {len cap : Nat} {lo hi : Option Value} {l h : Option Nat} (hl : BoundIs lo l) (hh : BoundIs hi h)
    (h1 : l.getD 0 ≤ h.getD len) (h2 : h.getD len ≤ cap) (w : World) :
    (Instr.sliceAt T (.slice A len cap) lo hi none).run P w = .ok (.slice (if cap = l.getD 0 then A else A.map (·.add (l.getD 0 * s))) (h.getD len - l.getD 0) (cap - l.getD 0)) w := by
  unfold Instr.sliceAt
  rw [Sem.run_bind, run_underlying hu]
  simp only [Result.andThen_ok]
  unfold Instr.slice
  rw [Sem.run_bind, run_underlying hu]
  simp only [Result.andThen_ok, Sem.run_bind, bounds_run hl hh h1 h2, run_sizeOf' hs, Sem.run_pure]

theorem sliceAt_str {T : Nat} (hu : P.underlying T = some .string) {bs : List UInt8} {lo hi : Option Value} {l h : Option Nat} (hl : BoundIs lo l) (hh : BoundIs hi h)
    (h1 : l.getD 0 ≤ h.getD bs.length) (h2 : h.getD bs.length ≤ bs.length) (w : World) :
    (Instr.sliceAt T (.string ⟨bs.toArray⟩) lo hi none).run P w = .ok (.string ⟨((bs.drop (l.getD 0)).take (h.getD bs.length - l.getD 0)).toArray⟩) w := by
  unfold Instr.sliceAt
  rw [Sem.run_bind, run_underlying hu]
  simp only [Result.andThen_ok]
  unfold Instr.slice
  rw [Sem.run_bind, run_underlying hu]
  have hsz : (ByteArray.mk bs.toArray).size = bs.length := by simp [ByteArray.size]
  simp only [Result.andThen_ok, Option.isSome_none, Bool.false_eq_true, if_false, Sem.run_bind, hsz, bounds_run hl hh h1 h2, Sem.run_pure, extract_mk]

theorem fits_slc {o : Oper} {x : Operand} {T : TypeId} {lo hi : Option Operand} (ho : o.op = .slice T x lo hi none) {str : Bool} {s : Nat}
    (hu : match str with | true => P.underlying T = some .string | false => ∃ e, P.underlying T = some (.slice e) ∧ SizeIs P e s) {d : Dst} {rx : Ref} {rl rh : Option Ref} (hd : chkDstO slots n o.dst d = true)
    (hx : chkRef slots x rx = true) (hlo : chkOpt slots lo rl = true) (hhi : chkOpt slots hi rh = true) : OpFits P CS RP slots n o (.slc d str s rx rl rh) := by
  intro M st a st' h hn hr next Q K
  simp only [runOp, runSlc] at hr
  obtain ⟨kx, tx⟩ := rd_trep h hx
  split at hr
  · rename_i l j hl hj
    have bl := opt_bound h hlo hl
    have bh := opt_bound h hhi hj
    split at hr
    · rename_i bs hv
      rw [hv] at tx
      split at hr
      · rename_i h1
        split at hr
        · rename_i h2
          have hrun : (execOp a.eval o).run P M.w = .ok (.value (.string ⟨((bs.drop (l.getD 0)).take (j.getD bs.length - l.getD 0)).toArray⟩)) M.w := by
            simp only [execOp, ho, tx.str, Option.map_none, Sem.run_bind, sliceAt_str hu bl bh h1 h2, Result.andThen_ok, Sem.run_pure]
          rw [hrun]
          exact value_pure h hd (rep_trep rfl (by simp [RepV, Rep])) hr rfl K
        · simp at hr
      · simp at hr
    · rename_i ow s' xs hv
      rw [hv] at tx
      obtain ⟨e, hu, hs⟩ := hu
      split at hr
      · rename_i hss
        subst hss
        split at hr
        · rename_i h1
          split at hr
          · rename_i h2
            obtain ⟨A, cap, hval, hcap, hnil⟩ := (sl_content h tx).val
            have hrun : (execOp a.eval o).run P M.w = .ok (.value (.slice (if cap = l.getD 0 then A else A.map (·.add (l.getD 0 * s'))) (j.getD xs.length - l.getD 0) (cap - l.getD 0))) M.w := by
              simp only [execOp, ho, hval, Option.map_none, Sem.run_bind, sliceAt_run hu hs bl bh h1 (Nat.le_trans h2 hcap), Result.andThen_ok, Sem.run_pure]
            rw [hrun]
            have plainCase : ∀ {M' : Mem} {st1 : St}, Handed M slots n st1 a M' → RepV M'.S M'.G M'.w (.sl .none s' xs) (a.eval x) → put st1 d (.sl .none s' ((xs.drop (l.getD 0)).take (j.getD xs.length - l.getD 0))) = some st' →
                o.upon P a next Q (.ok (.value (.slice (if cap = l.getD 0 then A else A.map (·.add (l.getD 0 * s'))) (j.getD xs.length - l.getD 0) (cap - l.getD 0))) M.w) := by
              intro M' st1 hk hR hp
              rw [hval] at hR
              exact value_ok hk.fr hk.evo hd (rep_trep rfl (rep_sub hR h1 h2)) hp hk.w.symm K
            split at hr
            · rename_i i' off vo m
              simp only [TRep] at tx
              obtain ⟨ys, v0, hO, hw⟩ := tx
              refine value_pure (av := .sl (.of i' off (vo + l.getD 0) m) s' ((xs.drop (l.getD 0)).take (j.getD xs.length - l.getD 0))) h hd ?_ hr rfl K
              simp only [TRep]
              refine ⟨ys, v0, hO, view_sub (hval ▸ hw) ?_ h1 h2 hcap⟩
              rcases h.owner_arr hO with ⟨e1, e2⟩ | ⟨e0, b, p, C, e1, _⟩
              · rcases e2 with e2 | ⟨b, p, e2⟩
                · exact ⟨0, 0, 0, .inr ⟨e2, e1⟩⟩
                · exact ⟨b, p, 0, .inl ⟨by rw [e2, e1]; rfl, fun _ => rfl⟩⟩
              · exact ⟨b, p, C, .inl ⟨e1, fun e => absurd e e0⟩⟩
            · simp at hr
            · rename_i hno1 hno2
              cases rx with
              | t y =>
                simp only [rd] at hv
                simp only [freezeT, hv] at hr
                cases ow with
                | own m =>
                  simp only at hr
                  obtain ⟨M', k1, r1, p1, _⟩ := pers_sound h hx (x := .sl .none s' xs) (st' := kill st y (.sl .none s' xs)) (by simp [pers, hv])
                  exact plainCase k1 r1 hr
                | none => exact plainCase (Handed.refl h) (by simpa [TRep, Has] using tx) hr
                | full => exact plainCase (Handed.refl h) (rep_content_full (by simpa [TRep, Has] using tx)).2 hr
                | of _ _ _ _ => exact absurd rfl (hno1 _ _ _ _)
                | ofg _ _ _ _ => exact absurd rfl (hno2 _ _ _ _)
              | v i' =>
                simp only [freezeT] at hr
                cases ow with
                | own m => exact absurd hv (view_not_own _ _ _ _ _)
                | none => exact plainCase (Handed.refl h) (by simpa [TRep, Has] using tx) hr
                | full => exact plainCase (Handed.refl h) (rep_content_full (by simpa [TRep, Has] using tx)).2 hr
                | of _ _ _ _ => exact absurd rfl (hno1 _ _ _ _)
                | ofg _ _ _ _ => exact absurd rfl (hno2 _ _ _ _)
              | c av =>
                simp only [freezeT] at hr
                cases ow with
                | own m =>
                  simp only [rd] at hv
                  subst hv
                  cases x <;> simp [chkRef, constOk] at hx
                | none => exact plainCase (Handed.refl h) (by simpa [TRep, Has] using tx) hr
                | full => exact plainCase (Handed.refl h) (rep_content_full (by simpa [TRep, Has] using tx)).2 hr
                | of _ _ _ _ => exact absurd rfl (hno1 _ _ _ _)
                | ofg _ _ _ _ => exact absurd rfl (hno2 _ _ _ _)
          · simp at hr
        · simp at hr
      · simp at hr
    · simp at hr
  · simp at hr

end
end Go.VS
/- append. -/
set_option linter.unusedVariables false
namespace Go.VS

structure ElemIs (P : Program) (e s eb : Nat) (z : Value) : Prop where
  info : ∃ i, P.info? e = some i ∧ i.size = s ∧ i.bytes = eb ∧ i.zero = some z
  cells : z.cells.size = s

section
variable {P : Program} {CS : CallSem} {RP : FuncId → Option (List AV → Option AV)} {slots : List Nat} {n : Nat} {M : Mem} {st : St} {a : Act}

theorem at_list {w : World} {b o : Nat} {vs : List Value} (h : At w b o vs) : ∀ j v, vs[j]? = some v → w.cell? ((⟨b, o, none⟩ : Addr).add j) = some v := by
  intro j v hj
  rw [addr_add]
  exact h.get hj

theorem encBytes_flat {S : Cells} {G : Lay} {w : World} : ∀ (l : List UInt8), Flat S G w 1 (l.map encByte) (l.map fun b => Value.int .u8 b.toNat)
  | [] => rfl
  | b :: l => ⟨[.int .u8 b.toNat], _, rfl, rfl, by simp [Value.oneCell'], by simp [encByte, Rep], encBytes_flat l⟩

theorem src_of (h : FR M slots n st a) {y : Operand} {ry : Ref} (hc : chkRef slots y ry = true) {s : Nat} {ys : List AV} (hy : elemsOf s (rd st ry) = some ys) {tx : TypeId}
    (hk : (∃ e', P.underlying tx = some (.slice e')) ∨ P.underlying tx = some .string) : ∃ news, Src P s tx (a.eval y) ys.length news M.w ∧ Flat M.S M.G M.w s ys news := by
  obtain ⟨kt, ht⟩ := rd_trep h hc
  unfold elemsOf at hy
  split at hy
  · rename_i ow s' ys' hl
    rw [hl] at ht
    split at hy
    · rename_i hs
      subst hs
      simp only [Option.some.injEq] at hy
      subst hy
      rcases sl_content h ht with ⟨e1, e2⟩ | ⟨b, o, cap, e1, e2, hE⟩
      · subst e1
        refine ⟨[], ⟨hk, fun _ => by rw [e2]; rfl, by rw [e2]; exact run_firstCells_none _ _ _ _ _, by rw [e2]; exact run_firstCells_none _ _ _ _ _, by simp, by simp⟩, rfl⟩
      · obtain ⟨vs, hF, hA⟩ := hE.flat
        refine ⟨vs, ⟨hk, fun _ => by rw [e1]; rfl, ?_, ?_, hF.length, hF.one⟩, hF⟩
        · rw [e1]; exact run_firstCells_some M.w s' ys'.length ⟨b, o, none⟩ _ _ vs hF.length (at_list hA)
        · rw [e1]; exact run_firstCells_some M.w.drew s' ys'.length ⟨b, o, none⟩ _ _ vs hF.length (at_list (At.mono (w := M.w) (w' := M.w.drew) (fun _ _ => rfl) hA))
    · simp at hy
  · rename_i l hl
    rw [hl] at ht
    split at hy
    · rename_i hs
      subst hs
      simp only [Option.some.injEq] at hy
      subst hy
      have hv := ht.str
      have hb : byteCells ⟨l.toArray⟩ = l.map fun b => Value.int .u8 b.toNat := by simp [byteCells]
      have hz : (ByteArray.mk l.toArray).size = l.length := by simp [ByteArray.size]
      refine ⟨byteCells ⟨l.toArray⟩, ⟨hk, fun _ => by rw [hv, List.length_map]; simp [Builtin.lenOf, hz], ?_, ?_, by rw [byteCells_length]; simp [hz], ?_⟩, by rw [hb]; exact encBytes_flat l⟩
      · rw [hv, List.length_map, ← hz]; exact firstCells_string _ _
      · rw [hv, List.length_map, ← hz]; exact firstCells_string _ _
      · rw [hb]; intro u hu
        obtain ⟨_, _, rfl⟩ := List.mem_map.1 hu
        rfl
    · simp at hy
  · simp at hy

theorem append_zero {t tx ty e : TypeId} (ht : P.underlying t = some (.slice e)) {s : Nat} (hs : SizeIs P e s) {x : Value} {w : World} (hsrc : Src P s tx x 0 [] w) (A : Option Addr) :
    (Builtin.append_ #[t, tx] ty #[.slice A 0 0, x]).run P w = .ok (.slice A 0 0) w := by
  obtain ⟨i, h1, h2⟩ := hs
  have hc : (Builtin.firstCells i.size 0 x).run P w = .ok #[] w := by rw [h2]; exact hsrc.cells
  cases A with
  | none => rcases hsrc.kind with ⟨e', hk⟩ | hk <;> simp [Builtin.append_, run_underlying ht, run_underlying hk, sizeOf, typeInfo, h1, hsrc.len, hc]
  | some b => rcases hsrc.kind with ⟨e', hk⟩ | hk <;> simp [Builtin.append_, run_underlying ht, run_underlying hk, sizeOf, typeInfo, h1, hsrc.len, hc, storeCells]

/-- More elements behind what is new. -/
theorem append_new {t tx ty e s eb : Nat} {z : Value} (ht : P.underlying t = some (.slice e)) (he : ElemIs P e s eb z) (heb : eb ≤ 4096) (h : FR M slots n st a) {m : Bool} {xs ys : List AV} {v x : Value}
    (hA : OwnArr M (.r 0) m s xs v) {news : List Value} (hsrc : Src P s tx x ys.length news M.w) (hF : Flat M.S M.G M.w s ys news) (hlim : xs.length + ys.length ≤ lim) :
    ∃ M' v', (Builtin.append_ #[t, tx] ty #[v, x]).run P M.w = .ok v' M'.w ∧ Evo M M' ∧ FR M' slots n st a ∧ OwnArr M' (.r 0) m s (xs ++ ys) v' := by
  obtain ⟨i, hi, hsz, hby, hz⟩ := he.info
  have hSz : SizeIs P e s := ⟨i, hi, hsz⟩
  have hl31 : xs.length + ys.length ≤ 2147483648 := hlim
  -- a new row
  have grow : ∀ {A : Option Addr} {cap : Nat} {olds : List Value}, v = .slice A xs.length cap → (Builtin.firstCells i.size xs.length (.slice A xs.length cap)).run P M.w.drew = .ok olds.toArray M.w.drew →
      Flat M.S M.G M.w s xs olds → cap < xs.length + ys.length →
      ∃ M' v', (Builtin.append_ #[t, tx] ty #[v, x]).run P M.w = .ok v' M'.w ∧ Evo M M' ∧ FR M' slots n st a ∧ OwnArr M' (.r 0) m s (xs ++ ys) v' := by
    intro A cap olds hv hold hFo hlt
    subst hv
    have hsrc' : Src P i.size tx x ys.length news M.w := by rw [hsz]; exact hsrc
    have hfit : Builtin.nextslicecap (xs.length + ys.length) cap * i.bytes ≤ 281474976710656 := by
      have h1 : Builtin.nextslicecap (xs.length + ys.length) cap ≤ 2 * (xs.length + ys.length) := nextslicecap_le hlt
      have h2 : Builtin.nextslicecap (xs.length + ys.length) cap * i.bytes ≤ 4294967296 * 4096 := Nat.mul_le_mul (by omega) (by omega)
      omega
    have hr := run_append_grow_src M.w t tx ty e i z ht hi hz A xs.length cap olds hold x ys.length news hsrc' hlt (by omega) hfit
    generalize hcc : grownCap M.w (xs.length + ys.length) cap e = cc at hr
    have hge : xs.length + ys.length ≤ cc := by rw [← hcc]; exact grownCap_ge _ _ _ _
    let c : Array Value := (olds ++ news).toArray ++ Builtin.zeroCells z.cells (cc - (xs.length + ys.length))
    have hp : Plus M.w (M.w.drew.alloc (.cells c e)) (.cells c e (0, 0)) := Plus.drewAlloc _ _
    have hFa : Flat M.S M.G M.w s (xs ++ ys) (olds ++ news) := hFo.append hF
    have hcs : c.size = cc * s := by
      have : c.size = (olds ++ news).length + (cc - (xs.length + ys.length)) * z.cells.size := by simp [c, size_zeroCells]
      rw [this, hFa.length, he.cells, List.length_append, ← Nat.add_mul]
      congr 1
      omega
    have hne : xs ++ ys ≠ [] := by
      intro e0
      have : (xs ++ ys).length = 0 := by rw [e0]; rfl
      rw [List.length_append] at this
      omega
    have hN := new_arr (key := .r 0) (cap := cc) h.wf hp hFa (fun j u hj => by
        have hlt' : j < (olds ++ news).length := (List.getElem?_eq_some_iff.1 hj).1
        simp only [c]
        rw [Array.getElem?_append_left (by simpa using hlt')]
        simpa using hj) (by simpa using hge) (by omega) (by intro j hj; simp) (fun e0 => absurd e0 hne)
    have hE1 := alloc_evo h.wf hp (.r 0)
    have hF1 := alloc_fr h hp (.r 0)
    have hlen : (xs ++ ys).length = xs.length + ys.length := List.length_append
    cases m with
    | true => exact ⟨_, _, hr, hE1, hF1, by rw [← hlen]; exact hN⟩
    | false =>
      obtain ⟨M2, e1, e2, e3, e4, e5, e6, e7⟩ := hN.settle (alloc_wf h.wf hp)
      refine ⟨M2, _, by rw [e1]; exact hr, hE1.trans e4, ?_, by rw [← hlen]; exact e6⟩
      exact hF1.evolve e4.grow e5 (fun id b hb => by rw [← e3]; exact hb) (fun b k hb hk => ⟨by rw [e2], by rw [e1], fun j hj => e7 b (by rw [hb]; intro e0; exact hk 0 (Option.some.inj e0)) j hj⟩)
  rcases hA with ⟨hx0, hv⟩ | ⟨hne, b, o, cap, hv, hown, hcap, hE, hR, hmt, hmf⟩
  · subst hx0
    by_cases hy0 : ys = []
    · subst hy0
      have hn0 : news = [] := by have := hF; simpa [Flat] using this
      subst hn0
      have hsrc0 : Src P s tx x 0 [] M.w := hsrc
      rcases hv with hv | ⟨b, o, hv⟩
      · exact ⟨M, v, by rw [hv]; exact append_zero ht hSz hsrc0 _, .refl M, h, .inl ⟨rfl, .inl hv⟩⟩
      · exact ⟨M, v, by rw [hv]; exact append_zero ht hSz hsrc0 _, .refl M, h, .inl ⟨rfl, .inr ⟨b, o, hv⟩⟩⟩
    · have hpos : 0 < ys.length := by
        cases ys with
        | nil => exact absurd rfl hy0
        | cons _ _ => simp
      rcases hv with hv | ⟨b, o, hv⟩
      · exact grow (olds := []) hv (run_firstCells_none _ _ _ _ _) rfl (by simpa using hpos)
      · refine grow (olds := []) hv ?_ rfl (by simpa using hpos)
        exact run_firstCells_some _ _ 0 _ _ _ [] (by simp) (by simp)
  · by_cases hroom : xs.length + ys.length ≤ cap
    · obtain ⟨c, et, fr, hc, hRn, hRf⟩ := hR
      have hsrc' : Src P i.size tx x ys.length news M.w := by rw [hsz]; exact hsrc
      have hnl : news.length = ys.length * s := hF.length
      have hbnd : (xs.length + ys.length) * s ≤ cap * s := Nat.mul_le_mul_right s hroom
      rw [Nat.add_mul] at hbnd
      have hcell : ∀ j, j < news.length → (M.w.cell? ⟨b, o + xs.length * s + j, none⟩).isSome = true := by
        intro j hj
        have : o + xs.length * s + j < c.size := by omega
        simp [World.cell?, hc, this]
      have hfz : ∀ j, j < news.length → M.w.frozen? ⟨b, o + xs.length * s + j, none⟩ = false := by
        intro j hj
        have := hRf (o + xs.length * s + j) (by omega)
        simp only [World.frozen?, hc]
        exact this
      have hr := run_append_room_src M.w t tx ty e i ht hi b o xs.length cap x ys.length news hsrc' hroom (by rw [hsz]; exact hcell) (by rw [hsz]; exact hfz)
      rw [hsz] at hr
      -- what has changed
      generalize hw' : M.w.setCells b (o + xs.length * s) news = w' at hr
      have hshape : ∀ (vs : List Value) (q : Nat) (w0 : World), ∃ c', c'.size = (match w0.heap[b]? with | some (.cells c0 _ _) => c0.size | _ => 0) ∧
          ((∃ c0, w0.heap[b]? = some (.cells c0 et fr)) → (w0.setCells b q vs).heap[b]? = some (.cells c' et fr)) ∧ (∀ b', b' ≠ b → (w0.setCells b q vs).heap[b']? = w0.heap[b']?) ∧
          (w0.setCells b q vs).heap.size = w0.heap.size ∧ (w0.setCells b q vs).os = w0.os ∧ (w0.setCells b q vs).tape = w0.tape ∧ (w0.setCells b q vs).output = w0.output := by
        intro vs
        induction vs with
        | nil =>
          intro q w0
          rcases hh : w0.heap[b]? with _ | ob
          · exact ⟨#[], by simp, by simp, fun _ _ => rfl, rfl, rfl, rfl, rfl⟩
          · cases ob with
            | cells c0 e0 f0 =>
              refine ⟨c0, by simp, ?_, fun _ _ => rfl, rfl, rfl, rfl, rfl⟩
              rintro ⟨c1, h1⟩
              simp only [Option.some.injEq, Go.Obj.cells.injEq] at h1
              obtain ⟨rfl, rfl, rfl⟩ := h1
              exact hh
            | _ => exact ⟨#[], by simp, by simp, fun _ _ => rfl, rfl, rfl, rfl, rfl⟩
        | cons v vs ih =>
          intro q w0
          obtain ⟨c', k1, k2, k3, k4, k5, k6, k7⟩ := ih (q + 1) (w0.setCell ⟨b, q, none⟩ v)
          have hs0 : (w0.setCell ⟨b, q, none⟩ v).heap.size = w0.heap.size := by simp [World.setCell]
          have hother : ∀ b', b' ≠ b → (w0.setCell ⟨b, q, none⟩ v).heap[b']? = w0.heap[b']? := fun b' hb' => by
            simp only [World.setCell, Array.getElem?_modify]
            rw [if_neg (Ne.symm hb')]
          have hat : ∀ c0 e0 f0, w0.heap[b]? = some (.cells c0 e0 f0) → (w0.setCell ⟨b, q, none⟩ v).heap[b]? = some (.cells (c0.setIfInBounds q v) e0 f0) := by
            intro c0 e0 f0 h0
            have hbl : b < w0.heap.size := by
              rcases Nat.lt_or_ge b w0.heap.size with hb | hb
              · exact hb
              · rw [Array.getElem?_eq_none hb] at h0; simp at h0
            simp only [World.setCell, Array.getElem?_modify, h0]
            simp
          refine ⟨c', ?_, ?_, fun b' hb' => (k3 b' hb').trans (hother b' hb'), k4.trans hs0, k5, k6, k7⟩
          · rw [k1]
            rcases hh : w0.heap[b]? with _ | ob
            · have : (w0.setCell ⟨b, q, none⟩ v).heap[b]? = none := by
                rw [Array.getElem?_eq_none_iff] at hh ⊢; rw [hs0]; exact hh
              rw [this]
            · cases ob with
              | cells c0 e0 f0 => rw [hat _ _ _ hh]; simp
              | _ =>
                have : (w0.setCell ⟨b, q, none⟩ v).heap[b]? = w0.heap[b]? := by
                  simp only [World.setCell, Array.getElem?_modify, hh]
                  simp
                rw [this, hh]
          · rintro ⟨c0, h0⟩
            exact k2 ⟨_, hat _ _ _ h0⟩
      obtain ⟨c', k1, k2, k3, k4, k5, k6, k7⟩ := hshape news (o + xs.length * s) M.w
      rw [hw'] at k2 k3 k4 k5 k6 k7
      rw [hc] at k1
      simp only at k1
      have hb' : w'.heap[b]? = some (.cells c' et fr) := by
        obtain ⟨e0, hcc⟩ : ∃ c0, M.w.heap[b]? = some (.cells c0 et fr) := ⟨c, hc⟩
        exact k2 ⟨_, hc⟩
      have hout : ∀ j, j < o + xs.length * s ∨ o + xs.length * s + news.length ≤ j → cellAt w' b j = cellAt M.w b j := by
        intro j hj
        rw [← hw']
        exact World.cell?_setCells_out b news _ M.w ⟨b, j, none⟩ (fun _ _ => hj)
      have hin : ∀ j v, news[j]? = some v → cellAt w' b (o + xs.length * s + j) = some v := by
        intro j v hj
        obtain ⟨hlt, he'⟩ := List.getElem?_eq_some_iff.1 hj
        rw [← hw', ← he']
        exact World.cell?_setCells_in b news _ M.w hcell j hlt
      have hlen : (xs ++ ys).length = xs.length + ys.length := List.length_append
      -- no cell that stays is written
      have hSout : ∀ j, M.S b j → j < o + xs.length * s ∨ o + xs.length * s + news.length ≤ j := by
        intro j hs
        cases m with
        | true => exact absurd hs (hmt rfl j)
        | false =>
          rcases Nat.lt_or_ge j (o + xs.length * s) with hlt | hge
          · exact .inl hlt
          · exact absurd hs ((hmf rfl).2 j hge)
      let T : Cells := fun b0 j => m = false ∧ b0 = b ∧ o + xs.length * s ≤ j ∧ j < o + xs.length * s + news.length
      let M' : Mem := { own := M.own, S := fun b0 j => M.S b0 j ∨ T b0 j, G := M.G, w := w' }
      have hgrow : Grow M.S M.G M.w M'.S M'.G M'.w := ⟨fun _ _ h => .inl h, fun _ _ h => h, fun b0 j hs => by
        by_cases hb0 : b0 = b
        · subst hb0; exact hout j (hSout j hs)
        · exact cellAt_of_heap (k3 b0 hb0) j⟩
      have hev : Evo M M' := ⟨hgrow, by show _ ≤ w'.heap.size; rw [k4]; exact Nat.le_refl _, k5, k6, k7, fun b0 hb0 ho0 => k3 b0 (fun e0 => by subst e0; rw [hown] at ho0; simp at ho0), fun _ _ h => h,
        fun b0 j hs => hs.elim .inl fun ht => .inr (.inr (by obtain ⟨_, rfl, _⟩ := ht; rw [hown]; simp))⟩
      have hwf : M'.Wf := by
        refine ⟨fun b0 j hs => ?_, fun b0 k hk => by show b0 < w'.heap.size; rw [k4]; exact h.wf.odom b0 k hk, h.wf.gown⟩
        rcases hs with hs | ⟨_, rfl, h1, h2⟩
        · have := h.wf.sdom b0 j hs
          rw [← hgrow.keep b0 j hs] at this
          exact this
        · have : j < c'.size := by omega
          show (cellAt w' b0 j).isSome = true
          simp [cellAt, World.cell?, hb', this]
      have hfr' : FR M' slots n st a := h.evolve hgrow hwf (fun _ _ h => h) (fun b0 k hk hkr => by
        have hb0 : b0 ≠ b := fun e0 => by subst e0; rw [hown] at hk; exact hkr 0 (Option.some.inj hk).symm
        exact ⟨rfl, k3 b0 hb0, fun j hs => hs.elim id fun ht => absurd ht.2.1 hb0⟩)
      refine ⟨M', _, by rw [hv]; exact hr, hev, hfr', .inr ⟨by simp [hne], b, o, cap, by rw [hlen], hown, by rw [hlen]; exact hroom, ?_, ⟨c', et, fr, hb', by omega, by rw [k1]; exact hRf⟩, fun hm j hs => ?_, fun hm => ⟨fun j hj => ?_, fun j hj hs => ?_⟩⟩⟩
      · refine Els.append (Els.mono hgrow xs o (fun j hj => hout _ (.inl (by omega))) hE) ?_
        refine (hF.mono hgrow).els ?_
        have key : ∀ (vs : List Value) (q : Nat), (∀ j v, vs[j]? = some v → cellAt w' b (q + j) = some v) → At w' b q vs := by
          intro vs
          induction vs with
          | nil => intro q _; trivial
          | cons v vs ih =>
            intro q hj
            refine ⟨by simpa using hj 0 v (by simp), ih (q + 1) (fun j u hu => ?_)⟩
            have := hj (j + 1) u (by simpa using hu)
            rwa [show q + 1 + j = q + (j + 1) by omega]
        exact key news _ hin
      · rcases hs with hs | ⟨hm', _⟩
        · exact hmt hm j hs
        · rw [hm] at hm'; simp at hm'
      · rw [hlen, Nat.add_mul] at hj
        rcases Nat.lt_or_ge j (xs.length * s) with hlt | hge
        · exact .inl ((hmf hm).1 j hlt)
        · exact .inr ⟨hm, rfl, by omega, by omega⟩
      · rw [hlen, Nat.add_mul] at hj
        rcases hs with hs | ⟨_, _, _, h2⟩
        · exact (hmf hm).2 j (by omega) hs
        · omega
    · obtain ⟨vs, hFo, hA⟩ := hE.flat
      refine grow hv ?_ hFo (by omega)
      rw [hsz]
      exact run_firstCells_some M.w.drew s xs.length ⟨b, o, none⟩ _ _ vs hFo.length (at_list (At.mono (w := M.w) (w' := M.w.drew) (fun _ _ => rfl) hA))

end
end Go.VS
/- Operations: append, taking over, boxes, stores, new values of every kind. -/
set_option linter.unusedVariables false
namespace Go.VS

section
variable {P : Program} {CS : CallSem} {RP : FuncId → Option (List AV → Option AV)} {slots : List Nat} {n : Nat} {M : Mem} {st : St} {a : Act}

/-- What variable i's place off owned is free to go on. -/
def Key.freeV (i off : Nat) : Key → Key
  | .v j k => if j = i ∧ k = off then .r 0 else .v j k
  | k => k

theorem Key.freeV_same {i off : Nat} {k : Key} (h : k ≠ .v i off) : Key.freeV i off k = k := by
  cases k <;> simp_all [Key.freeV]

theorem freeV_wf (h : M.Wf) {i off : Nat} : (M.ren (Key.freeV i off)).Wf := h.ren (by intro k hk; cases k <;> simp_all [Key.isG, Key.freeV])

theorem disown_sound (h : FR M slots n st a) {i off : Nat} {m : Bool} {s : Nat} {ys : List AV} {v0 : Value} (ho : Owner M st.vars (vvOf slots n a) i off m s ys v0) {st' : St}
    (hd : disown st i off m s ys = some st') : FR (M.ren (Key.freeV i off)) slots n st' a ∧ OwnArr (M.ren (Key.freeV i off)) (.r 0) m s ys v0 ∧ st'.store = st.store := by
  have hA := h.owner_arr ho
  have hA' : OwnArr (M.ren (Key.freeV i off)) (.r 0) m s ys v0 := by
    have := hA.ren (f := Key.freeV i off)
    simpa [Key.freeV] using this
  have hpres : ∀ b k, M.own b = some k → ¬ k.ofVar i → (∀ j, k ≠ .r j) → Pres M (M.ren (Key.freeV i off)) b :=
    fun b k hb hk _ => Mem.ren_pres hb (Key.freeV_same (by intro e; subst e; exact hk rfl))
  have hnew : ∀ {m' : Bool}, m' = m → RepV M.S M.G M.w (if m' then AV.undef else .sl .none s ys) v0 := by
    intro m' e
    subst e
    cases m' with
    | true => simp [RepV]
    | false => exact own_none hA
  refine ⟨?_, hA', ?_⟩
  · rcases ho with ⟨rfl, h1, h2⟩ | ⟨k, cs, b, rfl, h1, h2, h3, h4⟩
    · simp only [disown, Option.some.injEq] at hd
      subst hd
      have hil : i < slots.length := by
        have := (List.getElem?_eq_some_iff.1 h1).1; rw [h.len] at this; exact this
      have hv : vvOf slots n a i = a.tmps.getD slots[i] undef := by simp [vvOf, List.getD_eq_getElem?_getD, hil]
      refine h.setVar (M.ren_evo _).grow (freeV_wf h.wf) (fun _ _ h => h) (List.getElem?_eq_getElem hil) hpres (v := a.tmps.getD slots[i] undef) ?_ h.size h.defers rfl (fun _ _ => rfl)
      rw [← hv, ← h2]
      cases m with
      | true => simp [VRep, Has, RepV]
      | false => exact hnew rfl
    · simp only [disown, h1, Option.some.injEq] at hd
      subst hd
      have hil : i < slots.length := by
        have := (List.getElem?_eq_some_iff.1 h1).1; rw [h.len] at this; exact this
      have hv : vvOf slots n a i = a.tmps.getD slots[i] undef := by simp [vvOf, List.getD_eq_getElem?_getD, hil]
      have hr := h.vars i slots[i] _ (List.getElem?_eq_getElem hil) h1
      simp only [VRep, LBox] at hr
      obtain ⟨b', e1, e2, e3, c, et, fr, e4, e5, e6, e7⟩ := hr
      have hbb : b' = b := by rw [hv, e1] at h3; simpa using h3
      subst hbb
      refine h.setVar (M.ren_evo _).grow (freeV_wf h.wf) (fun _ _ h => h) (List.getElem?_eq_getElem hil) hpres (v := a.tmps.getD slots[i] undef) ?_ h.size h.defers rfl (fun _ _ => rfl)
      simp only [VRep, LBox]
      refine ⟨b', e1, ?_, e3, c, et, fr, e4, by simpa using e5, e6, fun j x hj => ?_⟩
      · have := Mem.ren_own (f := Key.freeV i (k + 1)) e2
        simpa [Key.freeV] using this
      · by_cases hjk : j = k
        · subst hjk
          obtain ⟨u, hu, hu1, hu2⟩ := e7 j _ h2
          have hlt : j < cs.length := (List.getElem?_eq_some_iff.1 h2).1
          have hx : x = (if m then AV.undef else .sl .none s ys) := by simpa [List.getElem?_set, hlt] using hj.symm
          have huv : u = v0 := by
            simp only [cellAt, World.cell?, e4] at h4
            simp at h4
            rw [hu] at h4
            simpa using h4
          subst hx huv
          refine ⟨u, hu, hu1, ?_⟩
          cases m with
          | true => simp [Has, RepV]
          | false => exact hnew rfl
        · have hj' : cs[j]? = some x := by simpa [List.getElem?_set, Ne.symm hjk] using hj
          obtain ⟨u, hu, hu1, hu2⟩ := e7 j x hj'
          refine ⟨u, hu, hu1, ?_⟩
          have := hu2.ren (f := Key.freeV i (k + 1))
          rwa [Key.freeV_same (by simp; omega)] at this
  · rcases ho with ⟨rfl, _⟩ | ⟨k, cs, b, rfl, h1, _⟩
    · simp only [disown, Option.some.injEq] at hd; subst hd; rfl
    · simp only [disown, h1, Option.some.injEq] at hd; subst hd; rfl

theorem ownerLen_of {vv : Nat → Value} {i off : Nat} {m : Bool} {s : Nat} {ys : List AV} {v0 : Value} (ho : Owner M st.vars vv i off m s ys v0) : ownerLen st i off = ys.length := by
  rcases ho with ⟨rfl, h1, _⟩ | ⟨k, cs, b, rfl, h1, h2, _⟩
  · simp [ownerLen, h1]
  · simp [ownerLen, h1, h2]

/-- A view that is as long as what it is of is the whole. -/
theorem View.whole {key : Key} {m : Bool} {s : Nat} {ys xs : List AV} {v0 v : Value} (hA : OwnArr M key m s ys v0) (hw : View s ys v0 0 xs v) (hl : xs.length = ys.length) :
    xs = ys ∧ OwnArr M key m s ys v := by
  rcases hw with ⟨_, h1, h2⟩ | ⟨h1, h2⟩ | ⟨b, o, C, cap, h1, h2, h3, h4, h5, h6⟩
  · subst h1 h2; exact ⟨rfl, hA⟩
  · subst h1
    have : ys = [] := List.length_eq_zero_iff.1 hl.symm
    subst this
    refine ⟨rfl, .inl ⟨rfl, ?_⟩⟩
    rcases h2 with h2 | ⟨b, o, cap, h2, h3⟩
    · exact .inl h2
    · rw [h3 rfl] at h2; exact .inr ⟨b, o, h2⟩
  · have hxy : xs = ys := by rw [h3, hl]; simp
    subst hxy
    refine ⟨rfl, ?_⟩
    rcases hA with ⟨e1, e2⟩ | ⟨hne, b', o', cap', hv, hb, hc, hE, hR, ht, hf⟩
    · subst e1
      rcases e2 with e2 | ⟨b', o', e2⟩
      · rw [h1] at e2; simp at e2
      · rw [h1] at e2
        simp only [Value.slice.injEq] at e2
        have : cap = 0 := by omega
        subst this
        exact .inl ⟨rfl, .inr ⟨b, o + 0 * s, by rw [h4]; rfl⟩⟩
    · rw [hv] at h1
      simp only [Value.slice.injEq, Option.some.injEq, Addr.mk.injEq, and_true, true_and] at h1
      obtain ⟨⟨rfl, rfl⟩, rfl⟩ := h1
      simp only [Nat.zero_mul, Nat.add_zero] at h4
      obtain ⟨c, et, fr, k1, k2, k3⟩ := hR
      have : cap * s ≤ cap' * s := Nat.mul_le_mul_right s h6
      exact .inr ⟨hne, b', o', cap, h4, hb, h5, hE, ⟨c, et, fr, k1, by omega, k3⟩, ht, hf⟩

theorem append_op {o : Oper} {x y : Operand} {ts : Array TypeId} (ho : o.op = .call { callee := .builtin .append, args := #[x, y], argTypes := ts }) (ρ : Operand → Value) (w : World) :
    (execOp ρ o).run P w = ((Builtin.append_ ts o.type #[ρ x, ρ y]).run P w).andThen fun v w' => .ok (.value v) w' := by
  simp only [execOp, ho, Sem.run_bind, run_resolve_builtin, Result.andThen_ok, invoke, builtin]
  rw [show (#[x, y].map ρ) = #[ρ x, ρ y] by simp]
  rfl

theorem fits_app {o : Oper} {x y : Operand} {t tx e s eb : Nat} {z : Value} (ho : o.op = .call { callee := .builtin .append, args := #[x, y], argTypes := #[t, tx] })
    (ht : P.underlying t = some (.slice e)) (he : ElemIs P e s eb z) (hk : (∃ e', P.underlying tx = some (.slice e')) ∨ P.underlying tx = some .string) {d : Dst} {rx ry : Ref}
    (hd : chkDstO slots n o.dst d = true) (hx : chkRef slots x rx = true) (hy : chkRef slots y ry = true) : OpFits P CS RP slots n o (.app d s eb rx ry) := by
  intro M st a st' h hn hr next Q K
  simp only [runOp, runApp] at hr
  split at hr
  · simp at hr
  · rename_i ys hys
    obtain ⟨news, hsrc, hF⟩ := src_of h hy hys hk
    obtain ⟨kx, tx'⟩ := rd_trep h hx
    split at hr
    · rename_i heb
      have fin : ∀ {M1 : Mem} {st1 : St} {m : Bool} {xs : List AV}, FR M1 slots n st1 a → Evo M M1 → M1.w = M.w → OwnArr M1 (.r 0) m s xs (a.eval x) → xs.length + ys.length ≤ lim →
          put st1 d (.sl (.own m) s (xs ++ ys)) = some st' → o.upon P a next Q ((execOp a.eval o).run P M.w) := by
        intro M1 st1 m xs h1 e1 w1 hA hl hp
        have hs1 : Src P s tx (a.eval y) ys.length news M1.w := by rw [w1]; exact hsrc
        obtain ⟨M2, v', k1, k2, k3, k4⟩ := append_new (ty := o.type) ht he heb h1 hA hs1 (hF.mono e1.grow) hl
        rw [append_op ho, ← w1, k1]
        exact value_ok (av := .sl (.own m) s (xs ++ ys)) k3 (e1.trans k2) hd k4 hp rfl K
      split at hr
      · rename_i s' hl
        split at hr
        · rename_i hss
          subst hss
          split at hr
          · rename_i hlim
            rw [hl] at tx'
            have hA : OwnArr M (.r 0) true s' [] (a.eval x) := full_own (by simpa [TRep, Has] using tx')
            exact fin h (.refl M) rfl hA (by simpa using hlim) (by simpa using hr)
          · simp at hr
        · simp at hr
      · rename_i m s' xs t' hl
        obtain ⟨rfl, hns⟩ := chkRef_t hx
        split at hr
        · rename_i hss
          subst hss
          split at hr
          · rename_i hlim
            exact fin (tmp_free h hns) (M.ren_evo _) rfl (tmp_own h hns hl) hlim hr
          · simp at hr
        · simp at hr
      · rename_i i off vo m s' xs hl
        split at hr
        · rename_i hss
          subst hss
          split at hr
          · rename_i hvo
            subst hvo
            split at hr
            · rename_i hlen
              split at hr
              · rename_i hlim
                split at hr
                · rename_i st1 hdis
                  rw [hl] at tx'
                  simp only [TRep] at tx'
                  obtain ⟨ys0, v0, hO, hw⟩ := tx'
                  rw [ownerLen_of hO] at hlen
                  obtain ⟨rfl, hA0⟩ := hw.whole (h.owner_arr hO) hlen
                  obtain ⟨hfr, _, _⟩ := disown_sound h hO hdis
                  have hA : OwnArr (M.ren (Key.freeV i off)) (.r 0) m s' xs (a.eval x) := by
                    have := hA0.ren (f := Key.freeV i off)
                    simpa [Key.freeV] using this
                  exact fin hfr (M.ren_evo _) rfl hA hlim hr
                · simp at hr
              · simp at hr
            · simp at hr
          · simp at hr
        · simp at hr
      · simp at hr
    · simp at hr

theorem fits_take {o : Oper} {x y : Nat} (ho : o.op = .move (.tmp x) ∨ o.op = .assign (.tmp x)) {i : Nat} {m : Bool} (hdst : o.dst = some y) (hi : slots[i]? = some y) (hx : x ∉ slots) :
    OpFits P CS RP slots n o (.take i m x) := by
  intro M st a st' h hn hr next Q K
  have hrun : (execOp a.eval o).run P M.w = .ok (.value (a.tmps.getD x undef)) M.w := by
    rcases ho with ho | ho <;> simp [execOp, ho, Act.eval]
  rw [hrun]
  have hd : chkDstO slots n o.dst (.v i m) = true := by rw [hdst]; simp [chkDstO, chkDst, hi]
  have hc : chkRef slots (.tmp x) (.t x) = true := by simp [chkRef, hx]
  have ht := h.tmps x hx
  simp only [runOp] at hr
  split at hr
  · rename_i j m' s xs hl
    rw [hl] at ht
    simp only [TRep] at ht
    obtain ⟨ys, v0, hO, hw⟩ := ht
    split at hr
    · rename_i hlen
      split at hr
      · rename_i st1 hdis
        rw [ownerLen_of hO] at hlen
        obtain ⟨rfl, hA0⟩ := hw.whole (h.owner_arr hO) hlen
        obtain ⟨hfr, _, _⟩ := disown_sound h hO hdis
        have hA : OwnArr (M.ren (Key.freeV j 0)) (.r 0) m' s xs (a.tmps.getD x undef) := by
          have := hA0.ren (f := Key.freeV j 0)
          simpa [Key.freeV] using this
        exact value_ok (av := .sl (.own m') s xs) hfr (M.ren_evo _) hd hA hr rfl K
      · simp at hr
    · simp at hr
  · rename_i m' s xs hl
    exact value_ok (av := .sl (.own m') s xs) (tmp_free h hx) (M.ren_evo _) hd (tmp_own h hx hl) hr rfl K
  · simp at hr
  · rename_i h1 h2 h3
    have hnew := rd_new h hc (by simpa [rd] using h2) (by simpa [rd] using h3) Key.r
    exact value_pure h hd hnew hr rfl K

/-- A new block for variable i. -/
theorem newBox (h : FR M slots n st a) {w' : World} {c : Array Value} {e : TypeId} {fr : Nat × Nat} (hp : Plus M.w w' (.cells c e fr)) {i y : Nat} (hi : slots[i]? = some y) {cs : List AV}
    (hl : c.size = cs.length) (hf : ∀ j, j < c.size → (decide (fr.1 ≤ j) && decide (j < fr.2)) = false)
    (hx : ∀ k x, cs[k]? = some x → ∃ v, c[k]? = some v ∧ v.cells = #[v] ∧ Has M (.v i (k + 1)) x v) :
    FR (M.alloc w' M.w.heap.size (.lb i)) slots n (setV st i (.lbox cs)) (a.put (some y) (.pointer (some ⟨M.w.heap.size, 0, none⟩))) := by
  have hev := alloc_evo h.wf hp (.lb i)
  refine h.setVar hev.grow (alloc_wf h.wf hp) (fun _ _ h => h) hi (fun b k hb _ _ => alloc_pres h.wf hp hb) (v := .pointer (some ⟨M.w.heap.size, 0, none⟩)) ?_ (by rw [size_put, h.size]) (by rw [defers_put, h.defers])
    (getD_put _ _ _ _ (by rw [h.size]; exact h.lt y (List.mem_of_getElem? hi))) (fun z hz => getD_put_ne _ _ _ (Ne.symm hz))
  simp only [VRep, LBox]
  refine ⟨M.w.heap.size, rfl, alloc_own, fun j hs => absurd (h.wf.slt hs) (by simp), c, e, fr, hp.new, hl, hf, fun k x hk => ?_⟩
  obtain ⟨v, h1, h2, h3⟩ := hx k x hk
  exact ⟨v, h1, h2, h3.pres hev.grow (fun b hb => alloc_pres h.wf hp hb)⟩

/-- A value's cells, as a box has them. -/
theorem into_cells (i : Nat) : ∀ {cs : List AV} {vs : List Value} (k : Nat), Reps M.S M.G M.w cs vs → ∀ j x, (cs.map intoCell)[j]? = some x →
    ∃ v, vs[j]? = some v ∧ v.cells = #[v] ∧ Has M (.v i (k + j + 1)) x v
  | [], _, k, _, j, x, hj => by simp at hj
  | c :: cs, _, k, h, 0, x, hj => by
    simp only [Reps] at h
    obtain ⟨v, r, rfl, h1, h0, h2, h3⟩ := h
    simp only [List.map_cons, List.getElem?_cons_zero, Option.some.injEq] at hj
    subst hj
    refine ⟨v, by simp, h1, ?_⟩
    unfold intoCell
    split
    · exact full_own (show RepV M.S M.G M.w _ v from h2)
    · have hr : RepV M.S M.G M.w c v := repV_of h0 h2
      cases c with
      | sl ow s xs => cases ow <;> first | (simp [Rep] at h2; done) | exact hr
      | _ => exact hr
  | c :: cs, _, k, h, j + 1, x, hj => by
    simp only [Reps] at h
    obtain ⟨v, r, rfl, h1, h0, h2, h3⟩ := h
    obtain ⟨u, e1, e2, e3⟩ := into_cells i (k + 1) h3 j x (by simpa using hj)
    exact ⟨u, by simpa using e1, e2, by rwa [show k + (j + 1) + 1 = k + 1 + j + 1 by omega]⟩

end
end Go.VS
/- Operations: boxes, stores, structs, new slices, bytes and strings. -/
set_option linter.unusedVariables false
namespace Go.VS

/-- A type's zero value, cell by cell. -/
def zeroOk : List AV → List Value → Bool
  | [], [] => true
  | x :: xs, v :: vs => constOk v x && zeroOk xs vs
  | _, _ => false

theorem constOk_cells {v : Value} {x : AV} (h : constOk v x = true) : v.cells = #[v] ∧ oneCell x = true ∧ x ≠ .undef := by
  unfold constOk at h
  split at h <;> simp_all [Value.cells, oneCell]

theorem zeroOk_reps {S : Cells} {G : Lay} {w : World} : ∀ {xs : List AV} {vs : List Value}, zeroOk xs vs = true → Reps S G w xs vs
  | [], [], _ => by simp [Reps]
  | x :: xs, v :: vs, h => by
    simp only [zeroOk, Bool.and_eq_true] at h
    have hc := constOk_cells h.1
    have hr := constOk_rep (S := S) (G := G) (w := w) h.1
    simp only [Reps]
    exact ⟨v, vs, rfl, hc.1, hc.2.1, rep_of hc.2.1 hr.2 hr.1, zeroOk_reps h.2⟩
  | [], _ :: _, h => by simp [zeroOk] at h
  | _ :: _, [], h => by simp [zeroOk] at h

def ZeroIs (P : Program) (t : TypeId) (zero : List AV) : Prop := ∃ i z, P.info? t = some i ∧ i.zero = some z ∧ zeroOk zero z.cells.toList = true

section
variable {P : Program} {CS : CallSem} {RP : FuncId → Option (List AV → Option AV)} {slots : List Nat} {n : Nat} {M : Mem} {st : St} {a : Act}

theorem run_zeroValue' {t : TypeId} {i : TypeInfo} {z : Value} (h : P.info? t = some i) (hz : i.zero = some z) (w : World) : (zeroValue t).run P w = .ok z w := by
  unfold zeroValue
  rw [Sem.run_bind, run_typeInfo' h]
  simp [hz]

theorem noR_alloc (h : NoR M) {w' : World} {b : Nat} {k : Key} (hk : ∀ j, k ≠ .r j) : NoR (M.alloc w' b k) := by
  intro x j
  simp only [Mem.alloc]
  split
  · intro e; exact hk j (Option.some.inj e)
  · exact h x j

theorem fits_alo {o : Oper} {T y : Nat} (ho : o.op = .alloc T) {i : Nat} {zero : List AV} (hz : ZeroIs P T zero) (hdst : o.dst = some y) (hi : slots[i]? = some y) :
    OpFits P CS RP slots n o (.alo i zero) := by
  intro M st a st' h hn hr next Q K
  simp only [runOp, Option.some.injEq] at hr
  subst hr
  obtain ⟨ti, z, h1, h2, h3⟩ := hz
  have hrun : (execOp a.eval o).run P M.w = .ok (.value (.pointer (some ⟨M.w.heap.size, 0, none⟩))) (M.w.alloc (.cells z.cells T)) := by
    simp only [execOp, ho, Instr.alloc, newVar, newRow, Sem.run_bind, run_zeroValue' h1 h2, Result.andThen_ok, run_newObj, Sem.run_pure]
    rfl
  rw [hrun, Oper.upon_value, hdst]
  have hp : Plus M.w (M.w.alloc (.cells z.cells T)) (.cells z.cells T (0, 0)) := Plus.alloc _ _
  have hreps := zeroOk_reps (S := M.S) (G := M.G) (w := M.w) h3
  refine K (M.alloc (M.w.alloc (.cells z.cells T)) M.w.heap.size (.lb i)) _ (newBox h hp hi (by have := hreps.length; simpa using this) (by simp) (fun k x hk => ?_)) (noR_alloc hn (by simp)) (alloc_evo h.wf hp _)
  obtain ⟨v, e1, e2, e3⟩ := into_cells i 0 hreps k x hk
  exact ⟨v, by simpa using e1, e2, by simpa using e3⟩

theorem cells_reps {x : AV} {v : Value} (hp : plain x = true) (h : RepV M.S M.G M.w x v) : Reps M.S M.G M.w (cellsOf x) v.cells.toList := by
  by_cases h1 : oneCell x = true
  · have hu : x ≠ .undef := by intro e; subst e; simp [plain] at hp
    have hr := rep_of h1 hp h
    obtain ⟨u, e1, e2, _⟩ := rep_one h1 hu hr
    simp only [List.cons.injEq, and_true] at e1
    subst e1
    have : cellsOf x = [x] := by cases x <;> simp_all [oneCell, cellsOf]
    rw [this, e2]
    simp only [Reps]
    exact ⟨v, [], rfl, e2, h1, hr, rfl⟩
  · cases x with
    | agg cs =>
      obtain ⟨vs, rfl, hr⟩ := h
      exact hr
    | _ => simp [oneCell] at h1

/-- A temporary's own array becomes one that only grows; its place is its place still. -/
theorem tmp_settle (h : FR M slots n st a) {y : Nat} (hy : y ∉ slots) {m : Bool} {s : Nat} {xs : List AV} (hl : look y st.tmps = .sl (.own m) s xs) :
    ∃ M', M'.w = M.w ∧ Evo M M' ∧ FR M' slots n (kill st y .undef) a ∧ OwnArr M' (.r 0) false s xs (a.tmps.getD y undef) := by
  have h1 := tmp_free h hy
  have h2 := tmp_own h hy hl
  cases m with
  | false => exact ⟨M.ren (Key.free y), rfl, M.ren_evo _, h1, h2⟩
  | true =>
    obtain ⟨M', e1, e2, e3, e4, e5, e6, e7⟩ := h2.settle h1.wf
    refine ⟨M', e1, (M.ren_evo _).trans e4, h1.evolve e4.grow e5 (fun id b hb => by rw [← e3]; exact hb) (fun b k hb hk => ⟨by rw [e2], by rw [e1], fun j hj => e7 b (by rw [hb]; intro e; exact hk 0 (Option.some.inj e)) j hj⟩), e6⟩

theorem box_run {o : Oper} {T : Nat} {x : Operand} (ho : o.op = .box T x) (ρ : Operand → Value) (w : World) :
    (execOp ρ o).run P w = .ok (.value (.pointer (some ⟨w.heap.size, 0, none⟩))) (w.alloc (.cells (ρ x).cells T)) := by
  simp only [execOp, ho, Instr.box, newVar, newRow, Sem.run_bind, Result.andThen_ok, run_newObj, Sem.run_pure]
  rfl

theorem fits_box {o : Oper} {T y : Nat} {x : Operand} (ho : o.op = .box T x) {i : Nat} {rx : Ref} (hx : chkRef slots x rx = true) (hdst : o.dst = some y) (hi : slots[i]? = some y) :
    OpFits P CS RP slots n o (.box i rx) := by
  intro M st a st' h hn hr next Q K
  rw [box_run ho, Oper.upon_value, hdst]
  have plainCase : ∀ {M' : Mem} {st1 : St} {v : AV}, Handed M slots n st1 a M' → RepV M'.S M'.G M'.w v (a.eval x) → plain v = true → setV st1 i (.lbox ((cellsOf v).map intoCell)) = st' →
      next (a.put (some y) (.pointer (some ⟨M.w.heap.size, 0, none⟩))) (M.w.alloc (.cells (a.eval x).cells T)) := by
    intro M' st1 v hk hR hpl he
    subst he
    have hp : Plus M'.w (M.w.alloc (.cells (a.eval x).cells T)) (.cells (a.eval x).cells T (0, 0)) := by rw [hk.w]; exact Plus.alloc _ _
    have hreps := cells_reps hpl hR
    have := newBox hk.fr hp hi (cs := (cellsOf v).map intoCell) (by have := hreps.length; simpa using this) (by simp) (fun k x' hk' => by
      obtain ⟨u, e1, e2, e3⟩ := into_cells i 0 hreps k x' hk'
      exact ⟨u, by simpa using e1, e2, by simpa using e3⟩)
    rw [hk.w] at this
    have hev := alloc_evo hk.fr.wf hp (.lb i)
    rw [hk.w] at hev
    exact K _ _ this (noR_alloc (hk.noR hn) (by simp)) (hk.evo.trans hev)
  cases rx with
  | t t =>
    obtain ⟨rfl, hns⟩ := chkRef_t hx
    simp only [runOp] at hr
    split at hr
    · rename_i m s xs hl
      simp only [Option.some.injEq] at hr
      subst hr
      obtain ⟨M1, w1, e1, f1, A1⟩ := tmp_settle h hns hl
      let M2 := M1.rekey fun _ => Key.v i 1
      have f2 : FR M2 slots n (kill st t .undef) a := f1.evolve (M1.rekey_evo _).grow (f1.wf.rekey _) (fun _ _ h => h) (fun b k hb hk => Mem.rekey_pres hb hk)
      have A2 : OwnArr M2 (.v i 1) false s xs (a.tmps.getD t undef) := OwnArr.rekey (f := fun _ => Key.v i 1) A1
      have hsl : ∃ q : Value, a.tmps.getD t undef = q ∧ q.cells = #[q] := by
        refine ⟨_, rfl, ?_⟩
        rcases A2 with ⟨_, e | ⟨b, p, e⟩⟩ | ⟨_, b, p, c, e, _⟩ <;> rw [e] <;> rfl
      obtain ⟨q, hq, hqc⟩ := hsl
      have hp : Plus M2.w (M.w.alloc (.cells (a.eval (.tmp t)).cells T)) (.cells (a.eval (.tmp t)).cells T (0, 0)) := by
        show Plus M1.w _ _
        rw [w1]; exact Plus.alloc _ _
      have hcl : (a.eval (.tmp t)).cells = #[q] := by show (a.tmps.getD t undef).cells = _; rw [hq, hqc]
      have := newBox f2 hp hi (cs := [.sl (.own false) s xs]) (by rw [hcl]; rfl) (by simp) (fun k x' hk' => by
        cases k with
        | zero =>
          simp only [List.getElem?_cons_zero, Option.some.injEq] at hk'
          subst hk'
          exact ⟨q, by rw [hcl]; rfl, hqc, hq ▸ A2⟩
        | succ k => simp at hk')
      have hw2 : M2.w = M.w := w1
      rw [hw2] at this
      have hev := alloc_evo f2.wf hp (.lb i)
      rw [hw2] at hev
      exact K _ _ this (noR_alloc (Mem.rekey_noR (by simp)) (by simp)) ((e1.trans (M1.rekey_evo _)).trans hev)
    · split at hr
      · rename_i v st1 hpers
        simp only [Option.some.injEq] at hr
        obtain ⟨M1, k1, r1, p1, _⟩ := pers_sound h hx hpers
        exact plainCase k1 r1 p1 hr
      · simp at hr
  | v j =>
    simp only [runOp] at hr
    split at hr
    · rename_i v st1 hpers
      simp only [Option.some.injEq] at hr
      obtain ⟨M1, k1, r1, p1, _⟩ := pers_sound h hx hpers
      exact plainCase k1 r1 p1 hr
    · simp at hr
  | c av =>
    simp only [runOp] at hr
    split at hr
    · rename_i v st1 hpers
      simp only [Option.some.injEq] at hr
      obtain ⟨M1, k1, r1, p1, _⟩ := pers_sound h hx hpers
      exact plainCase k1 r1 p1 hr
    · simp at hr

theorem fits_mkf {o : Oper} {f : FuncId} {cs : Array Operand} (ho : o.op = .makeFunc (.func f) #[] cs) {d : Dst} {rs : List Ref} (hd : chkDstO slots n o.dst d = true) (hx : chkRefs slots cs.toList rs = true) :
    OpFits P CS RP slots n o (.mkf d f rs) := by
  intro M st a st' h hn hr next Q K
  simp only [runOp] at hr
  split at hr
  · rename_i vs st1 hp
    split at hr
    · rename_i h1c
      obtain ⟨M1, k1, r1, p1, _⟩ := persL_sound h hx hp
      have hrun : (execOp a.eval o).run P M.w = .ok (.value (.func (.func f) #[] (cs.map a.eval))) M.w := by
        simp [execOp, ho, Instr.makeFunc]
      rw [hrun]
      refine value_ok (av := .func f vs) k1.fr k1.evo hd (rep_trep rfl ?_) hr k1.w.symm K
      simp only [RepV, Rep]
      refine ⟨_, rfl, ?_⟩
      have key : ∀ {xs : List AV} {us : List Value}, RepVs M1 xs us → (∀ x ∈ xs, plain x = true) → xs.all oneCell = true → Reps M1.S M1.G M1.w xs us := by
        intro xs
        induction xs with
        | nil => intro us h _ _; simpa [RepVs, Reps] using h
        | cons x xs ih =>
          intro us h hp h1
          obtain ⟨v, r, rfl, e1, e2⟩ := h
          simp only [List.all_cons, Bool.and_eq_true] at h1
          have hpx := hp x (by simp)
          have hr := rep_of h1.1 hpx e1
          obtain ⟨u, q1, q2, _⟩ := rep_one h1.1 (by intro e; subst e; simp [plain] at hpx) hr
          simp only [List.cons.injEq, and_true] at q1
          subst q1
          simp only [Reps]
          exact ⟨v, r, rfl, q2, h1.1, hr, ih e2 (fun y hy => hp y (by simp [hy])) h1.2⟩
      simpa using key r1 p1 h1c
    · simp at hr
  · simp at hr

end
end Go.VS
/- Operations: structs, slices with values, make, bytes and strings. -/
set_option linter.unusedVariables false
namespace Go.VS

/-- Cells laid over others. -/
theorem foldl_set (vs : List Value) : ∀ (k : Nat) (off : Nat) (cells : Array Value), off + k + vs.length ≤ cells.size →
    ((vs.zipIdx k).foldl (fun (cs : Array Value) (p : Value × Nat) => cs.setIfInBounds (off + p.2) p.1) cells).toList = cells.toList.take (off + k) ++ vs ++ cells.toList.drop (off + k + vs.length) := by
  induction vs with
  | nil => intro k off cells h; simp
  | cons v vs ih =>
    intro k off cells h
    simp only [List.zipIdx_cons, List.foldl_cons]
    rw [ih (k + 1) off (cells.setIfInBounds (off + k) v) (by simp at h ⊢; omega)]
    simp only [Array.toList_setIfInBounds, List.length_cons] at h ⊢
    have hlt : off + k < cells.toList.length := by simp at h ⊢; omega
    rw [show off + (k + 1) = off + k + 1 by omega, show off + k + 1 + vs.length = off + k + (vs.length + 1) by omega]
    rw [List.take_succ_eq_append_getElem (by simpa using hlt), List.getElem_set_self, List.take_set_of_le (Nat.le_refl _), List.drop_set_of_lt (by omega)]
    simp

theorem lay_cells (v : Value) (off : Nat) (cells : Array Value) (h : off + v.cells.size ≤ cells.size) :
    (v.cells.zipIdx.foldl (fun cs (c, j) => cs.setIfInBounds (off + j) c) cells).toList = cells.toList.take off ++ v.cells.toList ++ cells.toList.drop (off + v.cells.size) := by
  have := foldl_set v.cells.toList 0 off cells (by simpa using h)
  simp only [Nat.add_zero, Array.length_toList] at this
  rw [← this, ← Array.foldl_toList]
  congr 1
  congr 1
  simp

theorem Reps.append {S : Cells} {G : Lay} {w : World} : ∀ {xs ys : List AV} {us vs : List Value}, Reps S G w xs us → Reps S G w ys vs → Reps S G w (xs ++ ys) (us ++ vs)
  | [], ys, us, vs, h, k => by simp only [Reps] at h; subst h; simpa using k
  | x :: xs, ys, us, vs, h, k => by
    simp only [Reps] at h
    obtain ⟨v, r, rfl, h1, h0, h2, h3⟩ := h
    simp only [List.cons_append, Reps]
    exact ⟨v, r ++ vs, rfl, h1, h0, h2, h3.append k⟩

theorem Reps.take {S : Cells} {G : Lay} {w : World} {xs : List AV} {us : List Value} (h : Reps S G w xs us) (k : Nat) : Reps S G w (xs.take k) (us.take k) := by
  simpa using h.sub 0 k

theorem Reps.drop {S : Cells} {G : Lay} {w : World} {xs : List AV} {us : List Value} (h : Reps S G w xs us) (k : Nat) : Reps S G w (xs.drop k) (us.drop k) := by
  have := h.sub k xs.length
  rw [List.take_of_length_le (by simp), List.take_of_length_le (by have := h.length; simp; omega)] at this
  exact this

def chkParts (slots : List Nat) (place : Nat → Option (Nat × Nat)) : List (Nat × Operand) → List (Nat × Nat × Ref) → Bool
  | [], [] => true
  | (i, o) :: os, (off, sz, r) :: rs => place i == some (off, sz) && chkRef slots o r && chkParts slots place os rs
  | _, _ => false

section
variable {P : Program} {CS : CallSem} {RP : FuncId → Option (List AV → Option AV)} {slots : List Nat} {n : Nat} {M : Mem} {st : St} {a : Act}

theorem setPart_fill {x : AV} {v : Value} (hp : plain x = true) (h : RepV M.S M.G M.w x v) {cs cs' : List AV} {cells : Array Value} (hc : Reps M.S M.G M.w cs cells.toList) {off sz : Nat}
    (hs : setPart cs off sz x = some cs') : v.cells.size = sz ∧ off + v.cells.size ≤ cells.size ∧ Reps M.S M.G M.w cs' (v.cells.zipIdx.foldl (fun cs (c, j) => cs.setIfInBounds (off + j) c) cells).toList := by
  unfold setPart at hs
  split at hs
  · rename_i h1
    split at hs
    · rename_i h2
      simp only [Option.some.injEq] at hs
      subst hs
      have hr := cells_reps hp h
      have e1 : v.cells.size = sz := by have := hr.length; simp at this; omega
      have e2 : off + v.cells.size ≤ cells.size := by have := hc.length; simp at this; omega
      refine ⟨e1, e2, ?_⟩
      rw [lay_cells v off cells e2, e1]
      exact ((hc.take off).append hr).append (hc.drop (off + sz))
    · simp at hs
  · simp at hs

theorem build_sound {place : Nat → Option (Nat × Nat)} : ∀ {os : List (Nat × Operand)} {rs : List (Nat × Nat × Ref)} {M : Mem} {st : St} {cs cs' : List AV} {st' : St} {cells : Array Value}, FR M slots n st a →
    chkParts slots place os rs = true → Reps M.S M.G M.w cs cells.toList → buildCells st cs rs = some (cs', st') →
    ∃ M' cells', Handed M slots n st' a M' ∧ Instr.fill place cells (os.map fun p => (p.1, a.eval p.2)) = some cells' ∧ Reps M'.S M'.G M'.w cs' cells'.toList
  | [], [], M, st, cs, cs', st', cells, h, _, hc, hb => by
    simp only [buildCells, Option.some.injEq, Prod.mk.injEq] at hb
    obtain ⟨rfl, rfl⟩ := hb
    exact ⟨M, cells, Handed.refl h, rfl, hc⟩
  | (i, o) :: os, (off, sz, r) :: rs, M, st, cs, cs', st', cells, h, hk, hc, hb => by
    simp only [chkParts, Bool.and_eq_true, beq_iff_eq] at hk
    obtain ⟨⟨h1, h2⟩, h3⟩ := hk
    simp only [buildCells] at hb
    split at hb
    · rename_i x st1 hp
      split at hb
      · rename_i cs1 hs
        obtain ⟨M1, k1, r1, p1, _⟩ := pers_sound h h2 hp
        have hc1 : Reps M1.S M1.G M1.w cs cells.toList := Reps.mono k1.evo.grow cs _ hc
        obtain ⟨e1, e2, e3⟩ := setPart_fill p1 r1 hc1 hs
        obtain ⟨M2, cells2, k2, f2, r2⟩ := build_sound k1.fr h3 e3 hb
        refine ⟨M2, cells2, k1.trans k2, ?_, r2⟩
        simp only [List.map_cons, Instr.fill, h1]
        rw [if_neg (by simp only [Bool.or_eq_true, decide_eq_true_eq]; omega)]
        exact f2
      · simp at hb
    · simp at hb
  | [], _ :: _, _, _, _, _, _, _, _, hk, _, _ => by simp [chkParts] at hk
  | _ :: _, [], _, _, _, _, _, _, _, hk, _, _ => by simp [chkParts] at hk

/-- Where a struct's fields, an array's elements lie. -/
def PlacesAre (P : Program) (T : TypeId) (zero : List AV) (place : Nat → Option (Nat × Nat)) : Prop :=
  ∃ i z, P.info? T = some i ∧ i.zero = some z ∧ zeroOk zero z.cells.toList = true ∧
    ((∃ fs places, P.underlying T = some (.struct fs) ∧ fs.toList.mapM (fun f => (P.info? f.type).map fun i => (f.offset, i.size)) = some places ∧ place = fun k => places.toArray[k]?) ∨
     (∃ k e s, P.underlying T = some (.array k e) ∧ SizeIs P e s ∧ place = fun j => some (j * s, s)))

theorem fits_bld {o : Oper} {T : TypeId} {ps : Array (Nat × Operand)} (ho : o.op = .build T ps) {zero : List AV} {place : Nat → Option (Nat × Nat)} (hz : PlacesAre P T zero place) {d : Dst} {rs : List (Nat × Nat × Ref)}
    (hd : chkDstO slots n o.dst d = true) (hk : chkParts slots place ps.toList rs = true) : OpFits P CS RP slots n o (.bld d zero rs) := by
  intro M st a st' h hn hr next Q K
  simp only [runOp] at hr
  split at hr
  · rename_i cs st1 hb
    obtain ⟨ti, z, h1, h2, h3, h4⟩ := hz
    obtain ⟨M1, cells, k1, f1, r1⟩ := build_sound (a := a) h hk (zeroOk_reps h3) hb
    have hbuilt : P.built T (ps.map fun (i, x) => (i, a.eval x)).toList = some cells := by
      have hps : (ps.map fun (i, x) => (i, a.eval x)).toList = ps.toList.map fun p => (p.1, a.eval p.2) := by simp
      rw [hps]
      rcases h4 with ⟨fs, places, e1, e2, rfl⟩ | ⟨k, e, s, e1, ⟨ie, e2, e3⟩, rfl⟩
      · simp only [Program.built, h1, e1, h2, e2]
        exact f1
      · simp only [Program.built, h1, e1, h2, e2, e3]
        exact f1
    have hrun : (execOp a.eval o).run P M.w = .ok (.value (.agg cells)) M.w := by
      simp only [execOp, ho, Sem.run_bind, run_build M.w T _ cells hbuilt, Result.andThen_ok, Sem.run_pure]
    rw [hrun]
    exact value_ok (av := .agg cs) k1.fr k1.evo hd (rep_trep rfl ⟨_, rfl, r1⟩) hr k1.w.symm K
  · simp at hr

theorem RepVs.length : ∀ {xs : List AV} {vs : List Value}, RepVs M xs vs → vs.length = xs.length
  | [], _, h => by simp only [RepVs] at h; subst h; rfl
  | x :: xs, _, ⟨v, r, e, _, h⟩ => by subst e; simp [h.length]

/-- Elements that are values one by one. -/
theorem flat_of {s : Nat} : ∀ {xs : List AV} {vs : List Value}, RepVs M xs vs → (∀ x ∈ xs, plain x = true) → xs.all (elemOk s) = true → Flat M.S M.G M.w s xs (vs.flatMap fun v => v.cells.toList) ∧ ∀ v ∈ vs, v.cells.size = s
  | [], _, h, _, _ => by simp only [RepVs] at h; subst h; simp [Flat]
  | x :: xs, _, ⟨v, r, e, h1, h2⟩, hp, ha => by
    subst e
    simp only [List.all_cons, Bool.and_eq_true, elemOk, beq_iff_eq] at ha
    have hpx := hp x (by simp)
    have hreps := cells_reps hpx h1
    have hsz : v.cells.size = s := by have := hreps.length; simp at this; omega
    obtain ⟨f1, f2⟩ := flat_of h2 (fun y hy => hp y (by simp [hy])) ha.2
    have hrep : Rep M.S M.G M.w x v.cells.toList := by
      cases x with
      | agg cs => obtain ⟨us, rfl, hr⟩ := h1; simp only [Rep]; exact hr
      | undef => simp [plain] at hpx
      | _ =>
        have hr := rep_of rfl hpx h1
        obtain ⟨u, q1, q2, _⟩ := rep_one rfl (by simp) hr
        simp only [List.cons.injEq, and_true] at q1
        subst q1
        rw [q2]; exact hr
    refine ⟨?_, ?_⟩
    · simp only [List.flatMap_cons, Flat]
      exact ⟨_, _, rfl, by simpa using hsz, Rep.ones x _ hrep, hrep, f1⟩
    · intro u hu
      rcases List.mem_cons.1 hu with rfl | hu
      · exact hsz
      · exact f2 u hu

theorem fill_full {s : Nat} : ∀ (vs : List Value) (k : Nat) (cells : Array Value), (∀ v ∈ vs, v.cells.size = s) → cells.size = (k + vs.length) * s →
    ∃ cells', Instr.fill (fun i => some (i * s, s)) cells ((vs.zipIdx k).map fun p => (p.2, p.1)) = some cells' ∧ cells'.toList = cells.toList.take (k * s) ++ vs.flatMap fun v => v.cells.toList
  | [], k, cells, _, h => ⟨cells, rfl, by simp at h; rw [List.take_of_length_le (by simp; omega)]; simp⟩
  | v :: vs, k, cells, hs, h => by
    have hv := hs v (by simp)
    have hle : k * s + v.cells.size ≤ cells.size := by
      rw [h, hv, List.length_cons, ← Nat.succ_mul]
      exact Nat.mul_le_mul_right s (by omega)
    have hsz : (v.cells.zipIdx.foldl (fun cs (c, j) => cs.setIfInBounds (k * s + j) c) cells).size = cells.size := by
      rw [← Array.length_toList, lay_cells v (k * s) cells hle]
      simp
      omega
    obtain ⟨cells', e1, e2⟩ := fill_full vs (k + 1) (v.cells.zipIdx.foldl (fun cs (c, j) => cs.setIfInBounds (k * s + j) c) cells) (fun u hu => hs u (by simp [hu])) (by rw [hsz, h]; congr 1; simp; omega)
    refine ⟨cells', ?_, ?_⟩
    · simp only [List.zipIdx_cons, List.map_cons, Instr.fill]
      rw [if_neg (by simp only [Bool.or_eq_true, decide_eq_true_eq]; omega)]
      exact e1
    · rw [e2, lay_cells v (k * s) cells hle]
      have hl1 : (cells.toList.take (k * s) ++ v.cells.toList).length = (k + 1) * s := by
        rw [List.length_append, List.length_take, Array.length_toList, Array.length_toList, hv, Nat.add_mul]
        omega
      rw [List.take_left' hl1]
      simp

theorem fits_lit {o : Oper} {T e len s eb : Nat} {z : Value} {ps : Array (Nat × Operand)} (ho : o.op = .buildSlice T len ps) (ht : P.underlying T = some (.slice e)) (he : ElemIs P e s eb z) (hsm : len * s ≤ 16777216)
    (hps : (ps.toList.map (·.1)) = List.range len) {d : Dst} {rs : List Ref} (hd : chkDstO slots n o.dst d = true) (hk : chkRefs slots (ps.toList.map (·.2)) rs = true) : OpFits P CS RP slots n o (.lit d s rs) := by
  intro M st a st' h hn hr next Q K
  simp only [runOp] at hr
  split at hr
  · rename_i l st1 hp
    split at hr
    · rename_i hall
      obtain ⟨M1, k1, r1, p1, _⟩ := persL_sound h hk hp
      obtain ⟨i, hi, hsz, hby, hz⟩ := he.info
      obtain ⟨hF, hcs⟩ := flat_of r1 p1 hall
      have hlen : (ps.toList.map (·.2)).length = len := by
        have := congrArg List.length hps
        simpa using this
      have hll : l.length = len := by have := r1.length; simp at this hlen ⊢; omega
      let vs := (ps.toList.map (·.2)).map a.eval
      have hvl : vs.length = len := by simp only [vs, List.length_map] at hlen ⊢; exact hlen
      have hparts : (ps.map fun (i, x) => (i, a.eval x)).toList = (vs.zipIdx 0).map fun p => (p.2, p.1) := by
        apply List.ext_getElem?
        intro j
        simp only [vs, Array.toList_map, List.getElem?_map, List.getElem?_zipIdx, Nat.zero_add, List.map_map]
        rcases hj : ps.toList[j]? with _ | p
        · simp
        · have h2 := congrArg (·[j]?) hps
          simp only [List.getElem?_map, hj, Option.map_some] at h2
          have hjl : j < len := by
            have := (List.getElem?_eq_some_iff.1 hj).1
            simp at hlen this; omega
          rw [List.getElem?_range hjl] at h2
          simp only [Option.some.injEq] at h2
          simp [h2]
      let zero : Array Value := if len * s = 0 then #[] else z.cells
      let cells0 : Array Value := (Array.range (len * s)).map (zero[· % zero.size]!)
      obtain ⟨cells, f1, f2⟩ := fill_full (s := s) vs 0 cells0 hcs (by simp [cells0, hvl])
      simp only [Nat.zero_mul, List.take_zero, List.nil_append] at f2
      have hrun : (execOp a.eval o).run P M.w = .ok (.value (.slice (some ⟨M.w.heap.size, 0, none⟩) len len)) (M.w.alloc (.cells cells e)) := by
        simp only [execOp, ho, Instr.buildSlice, Sem.run_bind, run_underlying ht, Result.andThen_ok, run_sizeOf' ⟨i, hi, hsz⟩]
        have hnb : ¬ (len * s > 2 ^ 24) := by omega
        rw [if_neg hnb]
        have hc0 : ∀ Z : Array Value, Z = zero → (Array.range (len * s)).map (fun x => Z[x % Z.size]!) = cells0 := by rintro _ rfl; rfl
        by_cases hls : len * s = 0
        · rw [if_pos hls]
          simp only [Sem.run_bind, Sem.run_pure, Result.andThen_ok]
          rw [hparts, hc0 #[] (if_pos hls).symm, f1]
          simp only [newRow, Sem.run_bind, run_newObj, Result.andThen_ok, Sem.run_pure]
          rfl
        · rw [if_neg hls]
          simp only [Sem.run_bind, run_zeroValue' hi hz, Result.andThen_ok, Sem.run_pure]
          rw [hparts, hc0 z.cells (if_neg hls).symm, f1]
          simp only [newRow, Sem.run_bind, run_newObj, Result.andThen_ok, Sem.run_pure]
          rfl
      rw [hrun]
      have hp1 : Plus M1.w (M.w.alloc (.cells cells e)) (.cells cells e (0, 0)) := by rw [k1.w]; exact Plus.alloc _ _
      cases l with
      | nil =>
        have hl0 : len = 0 := by simpa using hll.symm
        have hev := alloc_evo k1.fr.wf hp1 (.t n 0)
        have hfr := alloc_fr k1.fr hp1 (.t n 0)
        refine value_ok (av := .sl .full s []) hfr (k1.evo.trans hev) hd (rep_trep rfl ?_) hr rfl K
        simp only [RepV, Rep]
        exact .inr ⟨M.w.heap.size, 0, by rw [hl0]; rfl, by simp, by simp [Els]⟩
      | cons x l =>
        have hN := new_arr (key := .r 0) (cap := (x :: l).length) k1.fr.wf hp1 hF (fun j u hj => by
          have : cells.toList[j]? = some u := by rw [f2]; exact hj
          simpa using this) (Nat.le_refl _) (by
            have := congrArg List.length f2
            rw [hF.length] at this
            simp only [Array.length_toList] at this
            rw [this]; exact Nat.le_refl _) (by simp) (by simp)
        have hev := alloc_evo k1.fr.wf hp1 (.r 0)
        have hfr := alloc_fr k1.fr hp1 (.r 0)
        have hsz1 : M1.w.heap.size = M.w.heap.size := by rw [k1.w]
        rw [hsz1] at hN hev hfr
        rw [← hll]
        exact value_ok (av := .sl (.own true) s (x :: l)) hfr (k1.evo.trans hev) hd hN hr rfl K
    · simp at hr
  · simp at hr

theorem fits_mks {o : Oper} {T e s eb : Nat} {z : Value} {x : Operand} (ho : o.op = .makeSlice T x x) (ht : P.underlying T = some (.slice e)) (he : ElemIs P e s eb z) {zero : AV}
    (hzr : ∀ S G w, RepV S G w zero z) (hzp : plain zero = true) {d : Dst} {rx : Ref} (hd : chkDstO slots n o.dst d = true) (hx : chkRef slots x rx = true) : OpFits P CS RP slots n o (.mks d zero s eb rx) := by
  intro M st a st' h hn hr next Q K
  simp only [runOp] at hr
  obtain ⟨kx, tx⟩ := rd_trep h hx
  split at hr
  · rename_i q k hl
    rw [hl] at tx
    split at hr
    · rename_i h0
      split at hr
      · rename_i hlim
        split at hr
        · rename_i heb
          split at hr
          · rename_i hel
            obtain ⟨i, hi, hsz, hby, hz⟩ := he.info
            have hl31 : k.toNat ≤ 2147483648 := hlim
            have hb : (i.bytes : Int) * k ≤ 281474976710656 := by
              have h1 : i.bytes * k.toNat ≤ 4096 * 2147483648 := Nat.mul_le_mul (by omega) hl31
              have h2 : ((i.bytes * k.toNat : Nat) : Int) = (i.bytes : Int) * k := by
                rw [Int.natCast_mul, Int.toNat_of_nonneg h0]
              omega
            have hr1 := run_make M.w T e i z ht hi hz q q k k h0 (Int.le_refl _) hb (by omega)
            have hrun : (execOp a.eval o).run P M.w = .ok (.value (.slice (some ⟨M.w.heap.size, 0, none⟩) k.toNat k.toNat)) (M.w.alloc (.cells (madeCells z.cells (k.toNat * i.size)) e)) := by
              simp only [execOp, ho, tx.int, Sem.run_bind, hr1, Result.andThen_ok, Sem.run_pure]
            rw [hrun]
            have hp1 : Plus M.w (M.w.alloc (.cells (madeCells z.cells (k.toNat * i.size)) e)) (.cells (madeCells z.cells (k.toNat * i.size)) e (0, 0)) := Plus.alloc _ _
            have hrv : ∀ m : Nat, RepVs M (List.replicate m zero) (List.replicate m z) := by
              intro m
              induction m with
              | zero => rfl
              | succ m ih => exact ⟨z, _, rfl, hzr _ _ _, ih⟩
            obtain ⟨hF, _⟩ := flat_of (s := s) (hrv k.toNat) (by intro y hy; rw [List.eq_of_mem_replicate hy]; exact hzp) (by
              rw [List.all_eq_true]; intro y hy; rw [List.eq_of_mem_replicate hy]; exact hel)
            have hcell : ∀ (j : Nat) (v : Value), ((List.replicate k.toNat z).flatMap fun v => v.cells.toList)[j]? = some v → (madeCells z.cells (k.toNat * i.size))[j]? = some v := by
              intro j v hj
              have key : ∀ (m j : Nat) (v : Value), ((List.replicate m z).flatMap fun v => v.cells.toList)[j]? = some v → z.cells[j % z.cells.size]? = some v ∧ j < m * z.cells.size := by
                intro m
                induction m with
                | zero => intro j v hj; simp at hj
                | succ m ih =>
                  intro j v hj
                  rw [List.replicate_succ, List.flatMap_cons] at hj
                  rcases Nat.lt_or_ge j z.cells.size with hlt | hge
                  · rw [List.getElem?_append_left (by simpa using hlt)] at hj
                    rw [Nat.mod_eq_of_lt hlt]
                    refine ⟨by simpa using hj, ?_⟩
                    rw [Nat.add_mul]; omega
                  · rw [List.getElem?_append_right (by simpa using hge)] at hj
                    obtain ⟨e1, e2⟩ := ih _ _ hj
                    simp only [Array.length_toList] at e1 e2
                    rw [Nat.mod_eq_sub_mod hge]
                    exact ⟨e1, by rw [Nat.add_mul]; omega⟩
              obtain ⟨e1, e2⟩ := key k.toNat j v hj
              have hjl : j < k.toNat * i.size := by rw [hsz, ← he.cells]; exact e2
              unfold madeCells
              rw [Array.getElem?_map, Array.getElem?_range, if_pos hjl]
              simp only [Option.map_some, Option.some.injEq]
              rw [getElem!_def, e1]
            have hN := new_arr (key := .r 0) (cap := k.toNat) h.wf hp1 hF hcell (by simp) (by rw [size_madeCells, hsz]; exact Nat.le_refl _) (by simp) (by
              intro e0
              have := congrArg List.length e0
              simpa using this)
            refine value_ok (av := .sl (.own true) s (List.replicate k.toNat zero)) (alloc_fr h hp1 (.r 0)) (alloc_evo h.wf hp1 (.r 0)) hd ?_ hr rfl K
            have : (List.replicate k.toNat zero).length = k.toNat := by simp
            rw [this] at hN
            exact hN
          · simp at hr
        · simp at hr
      · simp at hr
    · simp at hr
  · simp at hr

theorem decBytes_flat {S : Cells} {G : Lay} {w : World} : ∀ {xs : List AV} {l : List UInt8} {vs : List Value}, decBytes xs = some l → Flat S G w 1 xs vs → (∀ x ∈ xs, ∃ k : Int, x = .int .u8 k) ∧
    ∃ ns : List Int, vs = ns.map (Value.int .u8) ∧ ns.length = l.length ∧ ns.foldl (fun r n => r.push (UInt8.ofNat n.toNat)) ByteArray.empty = ⟨l.toArray⟩
  | xs, l, vs, hd, hF => by
    have key : ∀ (xs : List AV) (l : List UInt8) (vs : List Value), decBytes xs = some l → Flat S G w 1 xs vs → (∀ x ∈ xs, ∃ k : Int, x = .int .u8 k) ∧ ∃ ns : List Int, vs = ns.map (Value.int .u8) ∧ ns.length = l.length ∧
        ∀ r : ByteArray, ns.foldl (fun r n => r.push (UInt8.ofNat n.toNat)) r = ⟨r.data ++ l.toArray⟩ := by
      intro xs
      induction xs with
      | nil =>
        intro l vs hd hF
        simp only [decBytes, Option.some.injEq] at hd
        simp only [Flat] at hF
        subst hd hF
        exact ⟨by simp, [], rfl, rfl, by simp⟩
      | cons x xs ih =>
        intro l vs hd hF
        simp only [decBytes] at hd
        split at hd
        · rename_i b r hb hr
          simp only [Option.some.injEq] at hd
          subst hd
          obtain ⟨u, r', rfl, h1, h2, h3, h4⟩ := hF
          unfold decByte at hb
          split at hb
          · rename_i n
            simp only [Option.some.injEq] at hb
            subst hb
            simp only [Rep] at h3
            subst h3
            obtain ⟨e1, ns, e2, e3, e4⟩ := ih _ _ hr h4
            refine ⟨?_, n :: ns, by rw [e2]; rfl, by simp [e3], fun r => ?_⟩
            · intro y hy
              rcases List.mem_cons.1 hy with rfl | hy
              · exact ⟨n, rfl⟩
              · exact e1 y hy
            · rw [List.foldl_cons, e4]
              simp [ByteArray.push]
          · simp at hb
        · simp at hd
    obtain ⟨e1, ns, e2, e3, e4⟩ := key xs l vs hd hF
    refine ⟨e1, ns, e2, e3, ?_⟩
    rw [e4]
    simp

theorem fits_b2s {o : Oper} {x : Operand} {T T' e : TypeId} (ho : o.op = .convert T T' x) (hu : P.underlying T = some (.slice e)) (he : P.underlying e = some (.int .u8)) (hu' : P.underlying T' = some .string) {d : Dst} {rx : Ref}
    (hd : chkDstO slots n o.dst d = true) (hx : chkRef slots x rx = true) : OpFits P CS RP slots n o (.b2s d rx) := by
  intro M st a st' h hn hr next Q K
  simp only [runOp] at hr
  obtain ⟨kx, tx⟩ := rd_trep h hx
  split at hr
  · rename_i ow xs hl
    rw [hl] at tx
    split at hr
    · rename_i l hdec
      have hrun : (execOp a.eval o).run P M.w = .ok (.value (.string ⟨l.toArray⟩)) M.w := by
        rcases sl_content h tx with ⟨e1, e2⟩ | ⟨b, p, cap, e1, e2, hE⟩
        · subst e1
          simp only [decBytes, Option.some.injEq] at hdec
          subst hdec
          simp only [execOp, ho, Sem.run_bind, convert, run_underlying hu, run_underlying hu', run_underlying he, Result.andThen_ok, e2, Conv.bytesToString, Sem.run_pure]
          rfl
        · obtain ⟨vs, hF, hA⟩ := hE.flat
          obtain ⟨_, ns, n1, n2, n3⟩ := decBytes_flat hdec hF
          have hld := run_loadCells_list (P := P) M.w ⟨b, p, none⟩ vs (at_list hA)
          have hvl : vs.length = xs.length := by have := hF.length; omega
          rw [hvl, n1] at hld
          have hb := run_bytesToString (P := P) M.w ⟨b, p, none⟩ xs.length cap ns hld
          rw [n3] at hb
          simp only [execOp, ho, Sem.run_bind, convert, run_underlying hu, run_underlying hu', run_underlying he, Result.andThen_ok, e1, hb, Sem.run_pure]
      rw [hrun]
      exact value_pure h hd (rep_trep rfl (by simp [RepV, Rep])) hr rfl K
    · simp at hr
  · simp at hr

end
end Go.VS
/- Operations: stores. -/
set_option linter.unusedVariables false
namespace Go.VS

theorem setCell_at {w : World} {b q : Nat} {v : Value} {c : Array Value} {e : TypeId} {fr : Nat × Nat} (h : w.heap[b]? = some (.cells c e fr)) :
    (w.setCell ⟨b, q, none⟩ v).heap[b]? = some (.cells (c.setIfInBounds q v) e fr) := by
  have hbl : b < w.heap.size := by
    rcases Nat.lt_or_ge b w.heap.size with hb | hb
    · exact hb
    · rw [Array.getElem?_eq_none hb] at h; simp at h
  simp only [World.setCell, Array.getElem?_modify, h]
  simp

theorem setCells_at {b : Nat} {e : TypeId} {fr : Nat × Nat} : ∀ (vs : List Value) (q : Nat) (w : World) (c : Array Value), w.heap[b]? = some (.cells c e fr) →
    ∃ c', (w.setCells b q vs).heap[b]? = some (.cells c' e fr) ∧ c'.size = c.size ∧ (∀ j, j < q ∨ q + vs.length ≤ j → c'[j]? = c[j]?) ∧ (∀ j v, vs[j]? = some v → q + j < c.size → c'[q + j]? = some v) ∧
      (∀ b', b' ≠ b → (w.setCells b q vs).heap[b']? = w.heap[b']?) ∧ (w.setCells b q vs).heap.size = w.heap.size ∧ (w.setCells b q vs).os = w.os ∧ (w.setCells b q vs).tape = w.tape ∧ (w.setCells b q vs).output = w.output
  | [], q, w, c, h => ⟨c, h, rfl, fun _ _ => rfl, by simp, fun _ _ => rfl, rfl, rfl, rfl, rfl⟩
  | v :: vs, q, w, c, h => by
    obtain ⟨c', k1, k2, k3, k4, k5, k6, k7, k8, k9⟩ := setCells_at vs (q + 1) (w.setCell ⟨b, q, none⟩ v) _ (setCell_at h)
    refine ⟨c', k1, by simpa using k2, fun j hj => ?_, fun j u hu hlt => ?_, fun b' hb' => (k5 b' hb').trans ?_, ?_, k7, k8, k9⟩
    · rw [k3 j (by simp at hj; omega)]
      simp at hj
      rw [Array.getElem?_setIfInBounds_ne (by omega)]
    · cases j with
      | zero =>
        simp only [List.getElem?_cons_zero, Option.some.injEq] at hu
        subst hu
        rw [Nat.add_zero, k3 q (by omega)]
        simp at hlt
        simp [hlt]
      | succ j =>
        have := k4 j u (by simpa using hu) (by simp; omega)
        rwa [show q + 1 + j = q + (j + 1) by omega] at this
    · simp only [World.setCell, Array.getElem?_modify]
      rw [if_neg (Ne.symm hb')]
    · show ((w.setCell ⟨b, q, none⟩ v).setCells b (q + 1) vs).heap.size = _
      rw [k6]; simp [World.setCell]

theorem setCells_len : ∀ (l : List AV) (cs : List AV) (off : Nat), (setCells cs off l).length = cs.length
  | [], _, _ => rfl
  | v :: l, cs, off => by simp [setCells, setCells_len l]

theorem setCells_get : ∀ (l : List AV) (cs : List AV) (off k : Nat), off + l.length ≤ cs.length →
    (setCells cs off l)[k]? = if off ≤ k ∧ k < off + l.length then (l[k - off]?).map intoCell else cs[k]?
  | [], cs, off, k, h => by simp [setCells]; intro h1 h2; omega
  | v :: l, cs, off, k, h => by
    simp only [setCells]
    rw [setCells_get l _ _ k (by simp at h ⊢; omega)]
    simp only [List.length_cons] at h ⊢
    by_cases h1 : off + 1 ≤ k ∧ k < off + 1 + l.length
    · rw [if_pos h1, if_pos (by omega)]
      rw [show k - off = (k - (off + 1)) + 1 by omega, List.getElem?_cons_succ]
    · rw [if_neg h1]
      by_cases h2 : k = off
      · subst h2
        rw [if_pos (by omega), List.getElem?_set_self (by omega)]
        simp
      · rw [if_neg (by omega), List.getElem?_set_ne (Ne.symm h2)]

section
variable {P : Program} {CS : CallSem} {RP : FuncId → Option (List AV → Option AV)} {slots : List Nat} {n : Nat} {M : Mem} {st : St} {a : Act}

theorem storeVar_run {T k : Nat} (hs : SizeIs P T k) {b q : Nat} {v : Value} (hv : v.cells.size = k) {c : Array Value} {e : TypeId} {fr : Nat × Nat} {w : World} (hb : w.heap[b]? = some (.cells c e fr))
    (hle : q + k ≤ c.size) (hf : ∀ j, j < c.size → (decide (fr.1 ≤ j) && decide (j < fr.2)) = false) (h1 : ∀ u ∈ v.cells.toList, u.oneCell' = true) :
    (storeVar T ⟨b, q, none⟩ v).run P w = .ok () (w.setCells b q v.cells.toList) := by
  unfold storeVar
  rw [Sem.run_bind, run_sizeOf' hs]
  simp only [Result.andThen_ok, hv, ne_eq, not_true, if_false]
  have hlen : v.cells.toList.length = k := by simpa using hv
  have := run_storeCells_cells (P := P) b q v.cells.toList 0 w (fun j hj => by
      have : q + j < c.size := by omega
      simp [World.cell?, hb, this]) (fun j hj => by
      have := hf (q + j) (by omega)
      simp only [World.frozen?, hb, Nat.add_zero]
      exact this) h1
  simpa using this

theorem KindIs.size {T : Nat} {sz : Option Nat} (h : KindIs P T sz) : SizeIs P T (sz.getD 1) := by
  cases sz with
  | none => exact h.2
  | some k => exact h.2

/-- Cells of a variable's box are written. -/
theorem box_store (h : FR M slots n st a) {i b off : Nat} {cs : List AV} (hi : st.vars[i]? = some (.lbox cs)) (hb : vvOf slots n a i = .pointer (some ⟨b, 0, none⟩)) {vs : List Value} {l : List AV}
    (hl : vs.length = l.length) (hle : off + l.length ≤ cs.length) (hx : ∀ k x, l[k]? = some x → ∃ v, vs[k]? = some v ∧ v.cells = #[v] ∧ Has M (.v i (off + k + 1)) x v)
    {cs' : List AV} (hcl : cs'.length = cs.length) (hcs : ∀ k, cs'[k]? = if off ≤ k ∧ k < off + l.length then l[k - off]? else cs[k]?) :
    ∃ c e fr, M.w.heap[b]? = some (.cells c e fr) ∧ c.size = cs.length ∧ (∀ j, j < c.size → (decide (fr.1 ≤ j) && decide (j < fr.2)) = false) ∧
      ∃ M' : Mem, M'.w = M.w.setCells b off vs ∧ M'.own = M.own ∧ Evo M M' ∧ FR M' slots n (setV st i (.lbox cs')) a := by
  have hil : i < slots.length := by
    have := (List.getElem?_eq_some_iff.1 hi).1; rw [h.len] at this; exact this
  have hv : vvOf slots n a i = a.tmps.getD slots[i] undef := by simp [vvOf, List.getD_eq_getElem?_getD, hil]
  have hr := h.vars i slots[i] _ (List.getElem?_eq_getElem hil) hi
  simp only [VRep, LBox] at hr
  obtain ⟨b', e1, e2, e3, c, et, fr, e4, e5, e6, e7⟩ := hr
  have hbb : b' = b := by rw [hv, e1] at hb; simpa using hb
  subst hbb
  refine ⟨c, et, fr, e4, e5, e6, ?_⟩
  obtain ⟨c', k1, k2, k3, k4, k5, k6, k7, k8, k9⟩ := setCells_at vs off M.w c e4
  let M' : Mem := { M with w := M.w.setCells b' off vs }
  have hgrow : Grow M.S M.G M.w M'.S M'.G M'.w := ⟨fun _ _ h => h, fun _ _ h => h, fun b0 j hs => by
    by_cases hb0 : b0 = b'
    · subst hb0; exact absurd hs (e3 j)
    · exact cellAt_of_heap (k5 b0 hb0) j⟩
  have hev : Evo M M' := ⟨hgrow, by show _ ≤ (M.w.setCells b' off vs).heap.size; rw [k6]; exact Nat.le_refl _, k7, k8, k9,
    fun b0 _ ho0 => k5 b0 (fun e0 => by subst e0; rw [e2] at ho0; simp at ho0), fun _ _ h => h, fun _ _ h => .inl h⟩
  have hwf : M'.Wf := ⟨fun b0 j hs => by rw [hgrow.keep b0 j hs]; exact h.wf.sdom b0 j hs, fun b0 k hk => by show b0 < (M.w.setCells b' off vs).heap.size; rw [k6]; exact h.wf.odom b0 k hk, h.wf.gown⟩
  have hpres : ∀ b0 k, M.own b0 = some k → k ≠ .lb i → Pres M M' b0 := fun b0 k hk hne =>
    ⟨rfl, k5 b0 (fun e0 => by subst e0; rw [e2] at hk; exact hne (Option.some.inj hk).symm), fun _ h => h⟩
  refine ⟨M', rfl, rfl, hev, ?_⟩
  refine h.setVar hgrow hwf (fun _ _ h => h) (List.getElem?_eq_getElem hil) (fun b0 k hk hko _ => hpres b0 k hk (by intro e; subst e; exact hko rfl)) (v := a.tmps.getD slots[i] undef) ?_ h.size h.defers rfl (fun _ _ => rfl)
  simp only [VRep, LBox]
  refine ⟨b', e1, e2, e3, c', et, fr, k1, by rw [k2, e5, hcl], by rw [k2]; exact e6, fun k x hk => ?_⟩
  rw [hcs k] at hk
  have has : ∀ {x : AV} {v : Value}, Has M (.v i (k + 1)) x v → Has M' (.v i (k + 1)) x v := fun hh => hh.pres hgrow (fun b0 hb0 => hpres b0 _ hb0 (by simp))
  split at hk
  · rename_i hin
    obtain ⟨v, v1, v2, v3⟩ := hx _ _ hk
    refine ⟨v, ?_, v2, has ?_⟩
    · have := k4 _ _ v1 (by omega)
      rwa [show off + (k - off) = k by omega] at this
    · rwa [show off + (k - off) + 1 = k + 1 by omega] at v3
  · rename_i hout
    obtain ⟨v, v1, v2, v3⟩ := e7 k x hk
    exact ⟨v, by rw [k3 k (by omega)]; exact v1, v2, has v3⟩

theorem Els_iff {S : Cells} {G : Lay} {w : World} {b s : Nat} : ∀ {xs : List AV} {o : Nat}, Els S G w b s o xs ↔ ∀ k x, xs[k]? = some x → ∃ vs, vs.length = s ∧ At w b (o + k * s) vs ∧ Rep S G w x vs
  | [], o => by simp [Els]
  | x :: xs, o => by
    simp only [Els]
    rw [Els_iff (xs := xs)]
    constructor
    · rintro ⟨h1, h2⟩ k y hk
      cases k with
      | zero => simp at hk; subst hk; simpa using h1
      | succ k =>
        have := h2 k y (by simpa using hk)
        rwa [show o + s + k * s = o + (k + 1) * s by rw [Nat.add_mul]; omega] at this
    · intro h
      refine ⟨by simpa using h 0 x (by simp), fun k y hk => ?_⟩
      have := h (k + 1) y (by simpa using hk)
      rwa [show o + s + k * s = o + (k + 1) * s by rw [Nat.add_mul]; omega]

theorem At_iff {w : World} {b : Nat} : ∀ {vs : List Value} {o : Nat}, At w b o vs ↔ ∀ k v, vs[k]? = some v → cellAt w b (o + k) = some v
  | [], o => by simp [At]
  | v :: vs, o => by
    simp only [At]
    rw [At_iff (vs := vs)]
    constructor
    · rintro ⟨h1, h2⟩ k u hk
      cases k with
      | zero => simp at hk; subst hk; simpa using h1
      | succ k =>
        have := h2 k u (by simpa using hk)
        rwa [show o + 1 + k = o + (k + 1) by omega] at this
    · intro h
      refine ⟨by simpa using h 0 v (by simp), fun k u hk => ?_⟩
      have := h (k + 1) u (by simpa using hk)
      rwa [show o + 1 + k = o + (k + 1) by omega]

theorem Reps.set {S : Cells} {G : Lay} {w : World} : ∀ {cs : List AV} {vs : List Value}, Reps S G w cs vs → ∀ (k : Nat) {c : AV} {v : Value}, v.cells = #[v] → oneCell c = true → Rep S G w c [v] → Reps S G w (cs.set k c) (vs.set k v)
  | [], _, h, k, _, _, _, _, _ => by simp only [Reps] at h; subst h; simp [Reps]
  | c :: cs, _, h, 0, c', v', h1, h2, h3 => by
    simp only [Reps] at h
    obtain ⟨v, r, rfl, _, _, _, h4⟩ := h
    simp only [List.set_cons_zero, Reps]
    exact ⟨v', r, rfl, h1, h2, h3, h4⟩
  | c :: cs, _, h, k + 1, c', v', h1, h2, h3 => by
    simp only [Reps] at h
    obtain ⟨v, r, rfl, e1, e2, e3, h4⟩ := h
    simp only [List.set_cons_succ, Reps]
    exact ⟨v, _, rfl, e1, e2, e3, h4.set k h1 h2 h3⟩

theorem store_op {o : Oper} {T : Nat} {x y : Operand} (ho : o.op = .store T x y) (ρ : Operand → Value) {b q : Nat} (hx : ρ x = .pointer (some ⟨b, q, none⟩)) {w w' : World} (hs : (storeVar T ⟨b, q, none⟩ (ρ y)).run P w = .ok () w') :
    (execOp ρ o).run P w = .ok .skip w' := by
  simp only [execOp, ho, hx, Sem.run_bind, Instr.storeAt, Instr.sureAddr, Sem.run_pure, Result.andThen_ok, hs]

theorem has_into {v : Value} {c : AV} {key : Key} (h0 : oneCell c = true) (hp : plain c = true) (h : RepV M.S M.G M.w c v) : Has M key (intoCell c) v := by
  unfold intoCell
  split
  · exact full_own h
  · cases c with
    | sl ow s xs => cases ow <;> first | (simp [plain] at hp; done) | exact h
    | _ => exact h

theorem pers_vars {r : Ref} {x : AV} {st' : St} (h : pers st r = some (x, st')) : st'.vars = st.vars := by
  unfold pers at h
  repeat' split at h
  all_goals first
    | (simp only [Option.some.injEq, Prod.mk.injEq] at h; obtain ⟨_, rfl⟩ := h; rfl)
    | simp at h

theorem plain_cell {v : Value} {c : AV} (h0 : oneCell c = true) (hp : plain c = true) (h : RepV M.S M.G M.w c v) : v.cells = #[v] ∧ v.oneCell' = true := by
  have hr1 := rep_of h0 hp h
  obtain ⟨u, q1, q2, _⟩ := rep_one h0 (by intro e; subst e; simp [plain] at hp) hr1
  simp only [List.cons.injEq, and_true] at q1
  subst q1
  exact ⟨q2, Rep.ones c _ hr1 _ (by simp)⟩

theorem own_cell {v : Value} {key : Key} {m : Bool} {s : Nat} {xs : List AV} (h : OwnArr M key m s xs v) : v.cells = #[v] ∧ v.oneCell' = true := by
  rcases h with ⟨_, e | ⟨b, p, e⟩⟩ | ⟨_, b, p, c, e, _⟩ <;> rw [e] <;> exact ⟨rfl, rfl⟩

theorem stoCell_sound (h : FR M slots n st a) (hn : NoR M) {T : Nat} (hk : KindIs P T none) {i off b : Nat} {cs : List AV} (h1 : st.vars[i]? = some (.lbox cs)) (h2 : vvOf slots n a i = .pointer (some ⟨b, 0, none⟩)) {c : AV} {v : Value}
    (hv : v.cells = #[v]) (hv1 : v.oneCell' = true) (hh : Has M (.v i (off + 1)) c v) {st' : St} (hs : stoCell st i off c = some st') :
    ∃ M', (storeVar T ⟨b, off, none⟩ v).run P M.w = .ok () M'.w ∧ Evo M M' ∧ NoR M' ∧ FR M' slots n st' a := by
  unfold stoCell at hs
  rw [h1] at hs
  simp only at hs
  split at hs
  · rename_i hlt
    split at hs
    · simp only [Option.some.injEq] at hs
      subst hs
      obtain ⟨cc, et, fr, g1, g2, g3, M2, g4, g5, g6, g7⟩ := box_store h h1 h2 (vs := [v]) (l := [c]) (off := off) rfl (by simp; omega) (fun k x hk => by
        cases k with
        | zero => simp at hk; subst hk; exact ⟨_, rfl, hv, hh⟩
        | succ k => simp at hk) (cs' := cs.set off c) (by simp) (fun k => by
        by_cases hk0 : k = off
        · subst hk0; simp [hlt]
        · rw [if_neg (by simp; omega), List.getElem?_set_ne (Ne.symm hk0)])
      have hrun := storeVar_run (P := P) hk.2 (b := b) (q := off) (v := v) (by rw [hv]; rfl) g1 (by omega) g3 (by rw [hv]; intro u hu; simp at hu; subst hu; exact hv1)
      rw [hv] at hrun
      exact ⟨M2, by rw [hrun, g4], g6, fun b k => by rw [g5]; exact hn b k, g7⟩
    · simp at hs
  · simp at hs

theorem fits_sto {o : Oper} {T : Nat} {x y : Operand} (ho : o.op = .store T x y) {sz : Option Nat} (hk : KindIs P T sz) {rx ry : Ref} (hdst : o.dst = none) (hx : chkRef slots x rx = true) (hy : chkRef slots y ry = true) :
    OpFits P CS RP slots n o (.sto sz rx ry) := by
  intro M st a st' h hn hr next Q K
  simp only [runOp, runSto] at hr
  obtain ⟨kx, tx⟩ := rd_trep h hx
  have done : ∀ {M' : Mem} {w' : World}, (execOp a.eval o).run P M.w = .ok .skip w' → M'.w = w' → Evo M M' → NoR M' → FR M' slots n st' a → o.upon P a next Q ((execOp a.eval o).run P M.w) := by
    intro M' w' h1 h2 h3 h4 h5
    rw [h1, Oper.upon_skip, hdst, ← h2]
    exact K M' a h5 h4 h3
  -- what the handing on leaves of a box
  have boxStays : ∀ {M1 : Mem} {st1 : St} {i : Nat} {cs : List AV}, st1.vars = st.vars → st.vars[i]? = some (.lbox cs) → st1.vars[i]? = some (.lbox cs) := fun e h => by rw [e]; exact h
  split at hr
  · rename_i i off hl
    rw [hl] at tx
    simp only [TRep] at tx
    obtain ⟨b, cs, h1, h2, h3⟩ := tx
    have one : ∀ {st1 : St} {c : AV}, sz = none → pers st ry = some (c, st1) → stoCell st1 i off (intoCell c) = some st' → o.upon P a next Q ((execOp a.eval o).run P M.w) := by
      intro st1 c hsz hp he
      subst hsz
      obtain ⟨M1, k1, r1, p1, _⟩ := pers_sound h hy hp
      have h0 : oneCell c = true := by
        by_cases h0 : oneCell c = true
        · exact h0
        · cases c with
          | agg l =>
            unfold stoCell at he
            split at he
            · split at he
              · simp [intoCell, oneCell] at he
              · simp at he
            · simp at he
          | _ => simp [oneCell] at h0
      have hv1 : st1.vars[i]? = some (.lbox cs) := by
        have : st1.vars = st.vars := pers_vars hp
        rw [this]; exact h1
      obtain ⟨c1, c2⟩ := plain_cell h0 p1 r1
      obtain ⟨M2, g1, g2, g3, g4⟩ := stoCell_sound (P := P) k1.fr (k1.noR hn) hk hv1 h2 c1 c2 (has_into h0 p1 r1) he
      rw [k1.w] at g1
      exact done (store_op ho a.eval h3 g1) rfl (k1.evo.trans g2) g3 g4
    split at hr
    · split at hr
      · rename_i t
        obtain ⟨rfl, hns⟩ := chkRef_t hy
        split at hr
        · rename_i m s xs hlt
          obtain ⟨M1, w1, e1, f1, A1⟩ := tmp_settle h hns hlt
          let M2 := M1.rekey fun _ => Key.v i (off + 1)
          have f2 : FR M2 slots n (kill st t .undef) a := f1.evolve (M1.rekey_evo _).grow (f1.wf.rekey _) (fun _ _ h => h) (fun b k hb hk => Mem.rekey_pres hb hk)
          have A2 : OwnArr M2 (.v i (off + 1)) false s xs (a.tmps.getD t undef) := OwnArr.rekey (f := fun _ => Key.v i (off + 1)) A1
          obtain ⟨c1, c2⟩ := own_cell A2
          obtain ⟨M3, g1, g2, g3, g4⟩ := stoCell_sound (P := P) f2 (Mem.rekey_noR (by simp)) hk (st := kill st t .undef) h1 h2 c1 c2 (c := .sl (.own false) s xs) A2 hr
          have hw2 : M2.w = M.w := w1
          rw [hw2] at g1
          exact done (store_op ho a.eval h3 g1) rfl ((e1.trans (M1.rekey_evo _)).trans g2) g3 g4
        · split at hr
          · rename_i c st1 hp
            exact one rfl hp hr
          · simp at hr
      · split at hr
        · rename_i c st1 hp
          exact one rfl hp hr
        · simp at hr
    · rename_i m
      split at hr
      · rename_i l st1 hp
        split at hr
        · rename_i cs' hcs'
          have hv1 : st1.vars[i]? = some (.lbox cs) := by
            have : st1.vars = st.vars := pers_vars hp
            rw [this]; exact h1
          rw [hv1] at hcs'
          simp only [Option.some.injEq, AV.lbox.injEq] at hcs'
          subst hcs'
          split at hr
          · rename_i hlen
            split at hr
            · rename_i hle
              simp only [Option.some.injEq] at hr
              subst hr
              obtain ⟨M1, k1, r1, p1, _⟩ := pers_sound h hy hp
              obtain ⟨vs, hvs, hreps⟩ := r1
              have hl' := hreps.length
              obtain ⟨cc, et, fr, g1, g2, g3, M2, g4, g5, g6, g7⟩ := box_store k1.fr hv1 h2 (vs := vs.toList) (l := l.map intoCell) (off := off) (by simpa using hl') (by simp; omega) (fun k x hkx => by
                have := into_cells i off hreps k x hkx
                exact this) (cs' := setCells cs off l) (setCells_len _ _ _) (fun k => by
                rw [setCells_get l cs off k (by omega)]; simp)
              have hsz : (Value.agg vs).cells.size = m := by simp [Value.cells] at hl' ⊢; omega
              have hrun := storeVar_run (P := P) hk.size (b := b) (q := off) (v := .agg vs) hsz g1 (by rw [g2]; exact hle) g3 (Reps.ones l _ hreps)
              rw [k1.w] at hrun g4
              exact done (store_op ho a.eval h3 (by rw [hvs]; exact hrun)) (by rw [g4]; rfl) (k1.evo.trans g6) (fun b k => by rw [g5]; exact k1.noR hn b k) g7
            · simp at hr
          · simp at hr
        · simp at hr
      · simp at hr
  · rename_i i vo s xs0 j off hl
    rw [hl] at tx
    simp only [TRep] at tx
    obtain ⟨ys, b, p, C, hO, t2, t3, t4, t5⟩ := tx
    split at hr
    · rename_i c st1 hp
      split at hr
      · rename_i s' ys' hvi
        split at hr
        · rename_i hss
          subst hss
          split at hr
          · rename_i h0
            split at hr
            · rename_i e he
              split at hr
              · rename_i e' hset
                simp only [Option.some.injEq] at hr
                subst hr
                obtain ⟨M1, k1, r1, p1, _⟩ := pers_sound h hy hp
                have hvars : st1.vars = st.vars := pers_vars hp
                rcases hO with ⟨_, o1, o2⟩ | ⟨_, _, _, o0, _⟩
                · rw [hvars, o1] at hvi
                  simp only [Option.some.injEq, AV.sl.injEq, true_and] at hvi
                  subst hvi
                  have hil : i < slots.length := by
                    have := (List.getElem?_eq_some_iff.1 o1).1; rw [h.len] at this; exact this
                  have hvv : vvOf slots n a i = a.tmps.getD slots[i] undef := by simp [vvOf, List.getD_eq_getElem?_getD, hil]
                  have hA : OwnArr M1 (.v i 0) true s' ys (.slice (some ⟨b, p, none⟩) ys.length C) := by
                    have := k1.fr.vars i slots[i] _ (List.getElem?_eq_getElem hil) (by rw [hvars]; exact o1)
                    rw [← hvv, ← o2] at this
                    exact this
                  rcases hA with ⟨z1, z2⟩ | ⟨hne, b', p', C', z1, hown, hcap, hE, ⟨cc, et, fr, g1, g2, g3⟩, hmt, _⟩
                  · subst z1; simp at he
                  · simp only [Value.slice.injEq, Option.some.injEq, Addr.mk.injEq, and_true, true_and] at z1
                    obtain ⟨⟨rfl, rfl⟩, rfl⟩ := z1
                    obtain ⟨c1, c2⟩ := plain_cell h0 p1 r1
                    obtain ⟨us, u1, u2, u3⟩ := (Els_iff.1 hE) _ _ he
                    have hkl : vo + j < ys.length := (List.getElem?_eq_some_iff.1 he).1
                    -- the element as it will be
                    have hoff : off < s' ∧ Rep M1.S M1.G M1.w e' (us.set off (a.eval y)) := by
                      have hrc := rep_of h0 p1 r1
                      unfold setElem at hset
                      split at hset
                      · simp at hset
                      · rename_i l
                        split at hset
                        · rename_i hlt
                          simp only [Option.some.injEq] at hset
                          subst hset
                          simp only [Rep] at u3 ⊢
                          exact ⟨by have := u3.length; omega, u3.set off c1 h0 hrc⟩
                        · simp at hset
                      · rename_i hne1 hne2
                        split at hset
                        · rename_i hz
                          simp only [Option.some.injEq] at hset
                          subst hset hz
                          have he1 : oneCell e = true := by cases e <;> first | rfl | exact absurd rfl (hne2 _)
                          obtain ⟨u, q1, _, _⟩ := rep_one he1 hne1 u3
                          subst q1
                          simp only [List.length_cons, List.length_nil] at u1
                          exact ⟨by omega, by simpa using hrc⟩
                        · simp at hset
                    obtain ⟨hoff, hrep'⟩ := hoff
                    let q := p + (vo + j) * s' + off
                    have hbound : (vo + j) * s' + s' ≤ C * s' := by
                      rw [← Nat.succ_mul]; exact Nat.mul_le_mul_right s' (by omega)
                    obtain ⟨c', k1', k2', k3', k4', k5', k6', k7', k8', k9'⟩ := setCells_at [a.eval y] q M1.w cc g1
                    have hrun := storeVar_run (P := P) hk.size (b := b) (q := q) (v := a.eval y) (by rw [c1]; rfl) g1 (by show p + (vo + j) * s' + off + 1 ≤ _; omega) g3 (by rw [c1]; intro u hu; simp at hu; subst hu; exact c2)
                    rw [c1] at hrun
                    let M2 : Mem := { M1 with w := M1.w.setCells b q [a.eval y] }
                    have hgrow : Grow M1.S M1.G M1.w M2.S M2.G M2.w := ⟨fun _ _ h => h, fun _ _ h => h, fun b0 j0 hs => by
                      by_cases hb0 : b0 = b
                      · subst hb0; exact absurd hs (hmt rfl j0)
                      · exact cellAt_of_heap (k5' b0 hb0) j0⟩
                    have hev : Evo M1 M2 := ⟨hgrow, by show _ ≤ (M1.w.setCells b q [a.eval y]).heap.size; rw [k6']; exact Nat.le_refl _, k7', k8', k9',
                      fun b0 _ ho0 => k5' b0 (fun e0 => by subst e0; rw [hown] at ho0; simp at ho0), fun _ _ h => h, fun _ _ h => .inl h⟩
                    have hwf : M2.Wf := ⟨fun b0 j0 hs => by rw [hgrow.keep b0 j0 hs]; exact k1.fr.wf.sdom b0 j0 hs, fun b0 k hkk => by show b0 < (M1.w.setCells b q [a.eval y]).heap.size; rw [k6']; exact k1.fr.wf.odom b0 k hkk, k1.fr.wf.gown⟩
                    have hcellout : ∀ j0, j0 ≠ q → cellAt M2.w b j0 = cellAt M1.w b j0 := by
                      intro j0 hj0
                      have := k3' j0 (by simp; omega)
                      show cellAt (M1.w.setCells b q [a.eval y]) b j0 = _
                      simp [cellAt, World.cell?, k1', g1, this]
                    have hcellin : cellAt M2.w b q = some (a.eval y) := by
                      have := k4' 0 (a.eval y) rfl (by show p + (vo + j) * s' + off + 0 < _; omega)
                      show cellAt (M1.w.setCells b q [a.eval y]) b q = _
                      simp only [Nat.add_zero] at this
                      simp [cellAt, World.cell?, k1', this]
                    have hfr : FR M2 slots n (setV st1 i (.sl (.own true) s' (ys.set (vo + j) e'))) a := by
                      refine k1.fr.setVar hgrow hwf (fun _ _ h => h) (List.getElem?_eq_getElem hil) (fun b0 k hkk hko _ => ⟨rfl, k5' b0 (fun e0 => by subst e0; rw [hown] at hkk; simp only [Option.some.injEq] at hkk; subst hkk; exact hko rfl), fun _ h => h⟩)
                        (v := a.tmps.getD slots[i] undef) ?_ h.size h.defers rfl (fun _ _ => rfl)
                      rw [← hvv, ← o2]
                      refine .inr ⟨by intro e0; have := congrArg List.length e0; simp only [List.length_set, List.length_nil] at this; omega, b, p, C, by simp, hown, by simpa using hcap, ?_, ⟨c', et, fr, k1', by rw [k2']; exact g2, by rw [k2']; exact g3⟩, fun hm j0 hs => hmt hm j0 hs, fun hm => by simp at hm⟩
                      rw [Els_iff]
                      intro k x hkx
                      by_cases hkk : k = vo + j
                      · subst hkk
                        have : x = e' := by simpa [List.getElem?_set, hkl] using hkx.symm
                        subst this
                        refine ⟨us.set off (a.eval y), by simpa using u1, ?_, Rep.mono hgrow x _ hrep'⟩
                        rw [At_iff]
                        intro k0 v0 hk0
                        by_cases hk1 : k0 = off
                        · subst hk1
                          have : v0 = a.eval y := by
                            have hlt : k0 < us.length := by omega
                            simpa [List.getElem?_set, hlt] using hk0.symm
                          subst this
                          exact hcellin
                        · rw [List.getElem?_set_ne (Ne.symm hk1)] at hk0
                          rw [hcellout _ (by show _ ≠ p + (vo + j) * s' + off; omega)]
                          exact (At_iff.1 u2) k0 v0 hk0
                      · rw [List.getElem?_set_ne (Ne.symm hkk)] at hkx
                        obtain ⟨us', w1, w2, w3⟩ := (Els_iff.1 hE) _ _ hkx
                        refine ⟨us', w1, ?_, Rep.mono hgrow x _ w3⟩
                        rw [At_iff] at w2 ⊢
                        intro k0 v0 hk0
                        have hk0l : k0 < s' := by have := (List.getElem?_eq_some_iff.1 hk0).1; omega
                        rw [hcellout _ (by
                          show _ ≠ p + (vo + j) * s' + off
                          rcases Nat.lt_or_gt_of_ne hkk with hlt | hgt
                          · have : k * s' + s' ≤ (vo + j) * s' := by rw [← Nat.succ_mul]; exact Nat.mul_le_mul_right s' (by omega)
                            omega
                          · have : (vo + j) * s' + s' ≤ k * s' := by rw [← Nat.succ_mul]; exact Nat.mul_le_mul_right s' (by omega)
                            omega)]
                        exact w2 k0 v0 hk0
                    rw [k1.w] at hrun
                    exact done (M' := M2) (store_op ho a.eval t5 hrun) (by show M1.w.setCells b q [a.eval y] = _; rw [k1.w]) (k1.evo.trans hev) (k1.noR hn) hfr
                · omega
              · simp at hr
            · simp at hr
          · simp at hr
        · simp at hr
      · simp at hr
    · simp at hr
  · simp at hr

end
end Go.VS
