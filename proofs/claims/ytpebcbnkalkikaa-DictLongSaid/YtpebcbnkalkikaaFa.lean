/- Abstract values of the interpreter VS, and what it means that a value of the model is what an abstract value tells. -/
import Derived.Calls
import Derived.Below
import Derived.Laws.Sem
import Derived.Laws.Cells
import Derived.Laws.Entries
import Derived.Laws.IdiomCopy
namespace Go.VS

/-- How a slice stands to its array. -/
inductive Own where
  | none                      -- a view of what stays as it is
  | full                      -- such a view, and nothing behind it (or nil)
  | own (m : Bool)            -- its place owns the array; m: nobody else sees it
  | of (i off vo : Nat) (m : Bool)    -- (of temporaries) a view of what variable i owns (off: 0, or its box's cell off - 1), from element vo on
  | ofg (id off vo : Nat) (m : Bool)  -- the same of an object's cell
  deriving DecidableEq, Inhabited

inductive AV where
  | undef
  | bool (b : Bool)
  | int (k : IntKind) (n : Int)
  | flt (k : FloatKind) (b : Nat)
  | cpx (k : FloatKind) (re im : Nat)
  | str (s : List UInt8)
  | nilptr
  | ptr (id off : Nat)
  | lptr (i off : Nat)
  | eptr (o : Own) (s : Nat) (xs : List AV) (i off : Nat)
  | sl (o : Own) (s : Nat) (xs : List AV)
  | lbox (cs : List AV)
  | map (id : Option Nat)
  | func (f : FuncId) (caps : List AV)
  | nilfunc
  | seq (f : FuncId) (s : Nat) (xs : List AV)
  | iface (t : TypeId) (v : AV)
  | nilif
  | agg (cs : List AV)
  | tup (vs : List AV)
  deriving Inhabited

def oneCell : AV → Bool
  | .agg _ => false
  | _ => true

/-- Cells that stay as they are. -/
abbrev Cells := Nat → Nat → Prop
/-- Where the abstract objects lie. -/
abbrev Lay := Nat → Option Nat

def cellAt (w : World) (b j : Nat) : Option Value := w.cell? ⟨b, j, none⟩

/-- The cells vs lie at b, off .. -/
def At (w : World) (b : Nat) : Nat → List Value → Prop
  | _, [] => True
  | off, v :: vs => cellAt w b off = some v ∧ At w b (off + 1) vs

section
variable (S : Cells) (G : Lay) (w : World)
mutual
/-- What an abstract value says of a value's cells. -/
def Rep : AV → List Value → Prop
  | .undef, vs => ∀ c ∈ vs, c.oneCell' = true
  | .bool b, vs => vs = [.bool b]
  | .int k n, vs => vs = [.int k n]
  | .flt k b, vs => vs = [.float k b]
  | .cpx k re im, vs => vs = [.complex k re im]
  | .str s, vs => vs = [.string ⟨s.toArray⟩]
  | .nilptr, vs => vs = [.pointer none]
  | .ptr id off, vs => ∃ b, G id = some b ∧ vs = [.pointer (some ⟨b, off, none⟩)]
  | .lptr _ _, _ => False
  | .eptr .none s xs i off, vs => ∃ b o, vs = [.pointer (some ⟨b, o + i * s + off, none⟩)] ∧ i < xs.length ∧ (∀ j, j < xs.length * s → S b (o + j)) ∧ Els b s o xs
  | .eptr _ _ _ _ _, _ => False
  | .sl .none s xs, vs => (vs = [.slice none 0 0] ∧ xs = []) ∨
      ∃ b o cap, vs = [.slice (some ⟨b, o, none⟩) xs.length cap] ∧ xs.length ≤ cap ∧ (∀ j, j < xs.length * s → S b (o + j)) ∧ Els b s o xs
  | .sl .full s xs, vs => (vs = [.slice none 0 0] ∧ xs = []) ∨
      ∃ b o, vs = [.slice (some ⟨b, o, none⟩) xs.length xs.length] ∧ (∀ j, j < xs.length * s → S b (o + j)) ∧ Els b s o xs
  | .sl _ _ _, _ => False
  | .lbox _, _ => False
  | .map none, vs => vs = [.map none]
  | .map (some id), vs => ∃ b, G id = some b ∧ vs = [.map (some b)]
  | .func f caps, vs => ∃ c : Array Value, vs = [.func (.func f) #[] c] ∧ Reps caps c.toList
  | .nilfunc, vs => vs = [.nilFunc]
  | .seq f s xs, vs => ∃ b sv, vs = [.func (.func f) #[] #[.pointer (some ⟨b, 0, none⟩)]] ∧ S b 0 ∧ cellAt w b 0 = some sv ∧
      ((sv = .slice none 0 0 ∧ xs = []) ∨ ∃ b' o cap, sv = .slice (some ⟨b', o, none⟩) xs.length cap ∧ xs.length ≤ cap ∧ (∀ j, j < xs.length * s → S b' (o + j)) ∧ Els b' s o xs)
  | .iface t x, vs => ∃ v, vs = [.iface t v] ∧ v.cells = #[v] ∧ Rep x [v]
  | .nilif, vs => vs = [.nilIface]
  | .agg cs, vs => Reps cs vs
  | .tup _, _ => False
/-- Cell by cell. -/
def Reps : List AV → List Value → Prop
  | [], vs => vs = []
  | c :: cs, vs => ∃ v r, vs = v :: r ∧ v.cells = #[v] ∧ oneCell c = true ∧ Rep c [v] ∧ Reps cs r
/-- Elements of s cells each, from b, o on. -/
def Els (b s : Nat) : Nat → List AV → Prop
  | _, [] => True
  | o, x :: xs => (∃ vs, vs.length = s ∧ At w b o vs ∧ Rep x vs) ∧ Els b s (o + s) xs
end

/-- What an abstract value says of a value. -/
def RepV : AV → Value → Prop
  | .undef, _ => True
  | .agg cs, v => ∃ vs : Array Value, v = .agg vs ∧ Reps S G w cs vs.toList
  | x, v => Rep S G w x [v]
end

end Go.VS
/- What holds of an abstract value stays, where nothing that it reads changes. -/
namespace Go.VS

structure Grow (S : Cells) (G : Lay) (w : World) (S' : Cells) (G' : Lay) (w' : World) : Prop where
  sub : ∀ b j, S b j → S' b j
  lay : ∀ id b, G id = some b → G' id = some b
  keep : ∀ b j, S b j → cellAt w' b j = cellAt w b j

theorem Grow.refl (S : Cells) (G : Lay) (w : World) : Grow S G w S G w := ⟨fun _ _ h => h, fun _ _ h => h, fun _ _ _ => rfl⟩

theorem Grow.trans {S G w S' G' w' S'' G'' w''} (h : Grow S G w S' G' w') (k : Grow S' G' w' S'' G'' w'') : Grow S G w S'' G'' w'' :=
  ⟨fun b j x => k.sub b j (h.sub b j x), fun i b x => k.lay i b (h.lay i b x), fun b j x => (k.keep b j (h.sub b j x)).trans (h.keep b j x)⟩

theorem At.mono {w w' : World} {b : Nat} : ∀ {vs : List Value} {o : Nat}, (∀ j, j < vs.length → cellAt w' b (o + j) = cellAt w b (o + j)) → At w b o vs → At w' b o vs
  | [], _, _, _ => trivial
  | v :: vs, o, h, hA => by
    refine ⟨?_, At.mono (vs := vs) (o := o + 1) (fun j hj => ?_) hA.2⟩
    · have := h 0 (by simp); simp only [Nat.add_zero] at this; rw [this]; exact hA.1
    · have := h (j + 1) (by simp; omega); rw [show o + 1 + j = o + (j + 1) by omega]; exact this

section
variable {S : Cells} {G : Lay} {w : World} {S' : Cells} {G' : Lay} {w' : World}
mutual
theorem Rep.mono (g : Grow S G w S' G' w') : ∀ (x : AV) (vs : List Value), Rep S G w x vs → Rep S' G' w' x vs
  | .undef, _, h => by simpa only [Rep] using h
  | .bool _, _, h => by simpa only [Rep] using h
  | .int _ _, _, h => by simpa only [Rep] using h
  | .flt _ _, _, h => by simpa only [Rep] using h
  | .cpx _ _ _, _, h => by simpa only [Rep] using h
  | .str _, _, h => by simpa only [Rep] using h
  | .nilptr, _, h => by simpa only [Rep] using h
  | .ptr id off, _, h => by
    simp only [Rep] at h ⊢
    obtain ⟨b, hb, hv⟩ := h
    exact ⟨b, g.lay _ _ hb, hv⟩
  | .lptr _ _, _, h => by simp only [Rep] at h
  | .eptr .none s xs i off, _, h => by
    simp only [Rep] at h ⊢
    obtain ⟨b, o, hv, hi, hS, hE⟩ := h
    exact ⟨b, o, hv, hi, fun j hj => g.sub _ _ (hS j hj), Els.mono g xs o (fun j hj => g.keep _ _ (hS j hj)) hE⟩
  | .eptr .full _ _ _ _, _, h => by simp only [Rep] at h
  | .eptr (.own _) _ _ _ _, _, h => by simp only [Rep] at h
  | .eptr (.of _ _ _ _) _ _ _ _, _, h => by simp only [Rep] at h
  | .eptr (.ofg _ _ _ _) _ _ _ _, _, h => by simp only [Rep] at h
  | .sl .none s xs, _, h => by
    simp only [Rep] at h ⊢
    rcases h with h | ⟨b, o, cap, hv, hc, hS, hE⟩
    · exact .inl h
    · exact .inr ⟨b, o, cap, hv, hc, fun j hj => g.sub _ _ (hS j hj), Els.mono g xs o (fun j hj => g.keep _ _ (hS j hj)) hE⟩
  | .sl .full s xs, _, h => by
    simp only [Rep] at h ⊢
    rcases h with h | ⟨b, o, hv, hS, hE⟩
    · exact .inl h
    · exact .inr ⟨b, o, hv, fun j hj => g.sub _ _ (hS j hj), Els.mono g xs o (fun j hj => g.keep _ _ (hS j hj)) hE⟩
  | .sl (.own _) _ _, _, h => by simp only [Rep] at h
  | .sl (.of _ _ _ _) _ _, _, h => by simp only [Rep] at h
  | .sl (.ofg _ _ _ _) _ _, _, h => by simp only [Rep] at h
  | .lbox _, _, h => by simp only [Rep] at h
  | .map none, _, h => by simpa only [Rep] using h
  | .map (some id), _, h => by
    simp only [Rep] at h ⊢
    obtain ⟨b, hb, hv⟩ := h
    exact ⟨b, g.lay _ _ hb, hv⟩
  | .func f caps, _, h => by
    simp only [Rep] at h ⊢
    obtain ⟨c, hv, hr⟩ := h
    exact ⟨c, hv, Reps.mono g caps _ hr⟩
  | .nilfunc, _, h => by simpa only [Rep] using h
  | .seq f s xs, _, h => by
    simp only [Rep] at h ⊢
    obtain ⟨b, sv, hv, hS, hc, hr⟩ := h
    refine ⟨b, sv, hv, g.sub _ _ hS, by rw [g.keep _ _ hS]; exact hc, ?_⟩
    rcases hr with hr | ⟨b', o, cap, hv', hcap, hS', hE⟩
    · exact .inl hr
    · exact .inr ⟨b', o, cap, hv', hcap, fun j hj => g.sub _ _ (hS' j hj), Els.mono g xs o (fun j hj => g.keep _ _ (hS' j hj)) hE⟩
  | .iface t x, _, h => by
    simp only [Rep] at h ⊢
    obtain ⟨v, hv, h1, hr⟩ := h
    exact ⟨v, hv, h1, Rep.mono g x _ hr⟩
  | .nilif, _, h => by simpa only [Rep] using h
  | .agg cs, _, h => by
    simp only [Rep] at h ⊢
    exact Reps.mono g cs _ h
  | .tup _, _, h => by simp only [Rep] at h
theorem Reps.mono (g : Grow S G w S' G' w') : ∀ (cs : List AV) (vs : List Value), Reps S G w cs vs → Reps S' G' w' cs vs
  | [], _, h => by simpa only [Reps] using h
  | c :: cs, _, h => by
    simp only [Reps] at h ⊢
    obtain ⟨v, r, hv, h1, h0, hr, hs⟩ := h
    exact ⟨v, r, hv, h1, h0, Rep.mono g c _ hr, Reps.mono g cs _ hs⟩
theorem Els.mono (g : Grow S G w S' G' w') {b s : Nat} : ∀ (xs : List AV) (o : Nat), (∀ j, j < xs.length * s → cellAt w' b (o + j) = cellAt w b (o + j)) → Els S G w b s o xs → Els S' G' w' b s o xs
  | [], _, _, _ => by simp only [Els]
  | x :: xs, o, hS, h => by
    simp only [Els] at h ⊢
    obtain ⟨⟨vs, hl, hA, hr⟩, hE⟩ := h
    have hm : (x :: xs).length * s = xs.length * s + s := by simp [Nat.add_mul]
    refine ⟨⟨vs, hl, hA.mono (fun j hj => hS j (by omega)), Rep.mono g x vs hr⟩, Els.mono g xs (o + s) (fun j hj => ?_) hE⟩
    have := hS (s + j) (by omega)
    rwa [← Nat.add_assoc] at this
end

theorem RepV.mono (g : Grow S G w S' G' w') {x : AV} {v : Value} (h : RepV S G w x v) : RepV S' G' w' x v := by
  cases x
  case undef => trivial
  case agg cs => obtain ⟨vs, hv, hr⟩ := h; exact ⟨vs, hv, Reps.mono g cs _ hr⟩
  all_goals exact Rep.mono g _ _ h
end

section
variable {S : Cells} {G : Lay} {w : World}
theorem Els.drop {b s : Nat} : ∀ {xs : List AV} {o : Nat}, Els S G w b s o xs → ∀ k, Els S G w b s (o + k * s) (xs.drop k)
  | xs, o, h, 0 => by simpa using h
  | [], o, h, k + 1 => by simp [Els]
  | x :: xs, o, h, k + 1 => by
    simp only [Els] at h
    have := Els.drop h.2 k
    rw [show o + (k + 1) * s = o + s + k * s by rw [Nat.add_mul]; omega]
    simpa using this
theorem Els.take {b s : Nat} : ∀ {xs : List AV} {o : Nat}, Els S G w b s o xs → ∀ k, Els S G w b s o (xs.take k)
  | xs, o, h, 0 => by simp [Els]
  | [], o, h, k + 1 => by simp [Els]
  | x :: xs, o, h, k + 1 => by
    simp only [Els, List.take_succ_cons] at h ⊢
    exact ⟨h.1, Els.take h.2 k⟩
theorem Els.sub {b s : Nat} {xs : List AV} {o : Nat} (h : Els S G w b s o xs) (k n : Nat) : Els S G w b s (o + k * s) ((xs.drop k).take n) :=
  (h.drop k).take n
theorem Els.append {b s : Nat} : ∀ {xs ys : List AV} {o : Nat}, Els S G w b s o xs → Els S G w b s (o + xs.length * s) ys → Els S G w b s o (xs ++ ys)
  | [], ys, o, _, h => by simpa using h
  | x :: xs, ys, o, h, k => by
    simp only [Els, List.cons_append] at h ⊢
    refine ⟨h.1, Els.append h.2 ?_⟩
    rw [show o + s + xs.length * s = o + (x :: xs).length * s by simp [Nat.add_mul]; omega]
    exact k
theorem Els.get {b s : Nat} {xs : List AV} {o : Nat} (h : Els S G w b s o xs) {k : Nat} {x : AV} (hk : xs[k]? = some x) :
    ∃ vs, vs.length = s ∧ At w b (o + k * s) vs ∧ Rep S G w x vs := by
  have := h.drop k
  obtain ⟨hl, he⟩ := List.getElem?_eq_some_iff.1 hk
  rw [List.drop_eq_getElem_cons hl, he] at this
  simp only [Els] at this
  exact this.1
theorem At.get {b : Nat} : ∀ {vs : List Value} {o : Nat}, At w b o vs → ∀ {k : Nat} {v : Value}, vs[k]? = some v → cellAt w b (o + k) = some v
  | [], _, _, _, _, h => by simp at h
  | u :: vs, o, h, 0, v, e => by simp at e; subst e; exact h.1
  | u :: vs, o, h, k + 1, v, e => by
    simp at e
    have := At.get h.2 e
    rwa [show o + 1 + k = o + (k + 1) by omega] at this
end

end Go.VS
/- The ghost beside a world: which blocks are owned, by what; which cells stay. What a frame's abstract slots say of its slots. -/
namespace Go.VS

/-- What may own a block: variable i (its array; its box's k-th cell is k + 1), a temporary, a result, a variable's box, an object's cell, an object, a map. -/
inductive Key where
  | v (i k : Nat)
  | t (x k : Nat)
  | r (k : Nat)
  | lb (i : Nat)
  | g (id k : Nat)
  | gb (id : Nat)
  | mp (id : Nat)
  deriving DecidableEq

def Key.isG : Key → Bool
  | .g _ _ | .gb _ | .mp _ => true
  | _ => false

structure Mem where
  own : Nat → Option Key
  S : Cells
  G : Lay
  w : World

structure Mem.Wf (M : Mem) : Prop where
  sdom : ∀ b j, M.S b j → (cellAt M.w b j).isSome = true
  odom : ∀ b k, M.own b = some k → b < M.w.heap.size
  gown : ∀ id b, M.G id = some b → M.own b = some (.gb id) ∨ M.own b = some (.mp id)

theorem cellAt_lt {w : World} {b j : Nat} (h : (cellAt w b j).isSome = true) : b < w.heap.size := by
  unfold cellAt World.cell? at h
  rcases Nat.lt_or_ge b w.heap.size with hb | hb
  · exact hb
  · simp [Array.getElem?_eq_none hb] at h

theorem Mem.Wf.slt {M : Mem} (h : M.Wf) {b j : Nat} (hs : M.S b j) : b < M.w.heap.size := cellAt_lt (h.sdom b j hs)

/-- A block of cells with at least n, none of them frozen. -/
def Room (w : World) (b n : Nat) : Prop :=
  ∃ c e fr, w.heap[b]? = some (.cells c e fr) ∧ n ≤ c.size ∧ ∀ j, j < c.size → (decide (fr.1 ≤ j) && decide (j < fr.2)) = false

/-- What key owns: an array whose elements are xs. -/
def OwnArr (M : Mem) (key : Key) (m : Bool) (s : Nat) (xs : List AV) (v : Value) : Prop :=
  (xs = [] ∧ (v = .slice none 0 0 ∨ ∃ b o, v = .slice (some ⟨b, o, none⟩) 0 0)) ∨
  (xs ≠ [] ∧ ∃ b o cap, v = .slice (some ⟨b, o, none⟩) xs.length cap ∧ M.own b = some key ∧ xs.length ≤ cap ∧
    Els M.S M.G M.w b s o xs ∧ Room M.w b (o + cap * s) ∧
    (m = true → ∀ j, ¬ M.S b j) ∧
    (m = false → (∀ j, j < xs.length * s → M.S b (o + j)) ∧ ∀ j, o + xs.length * s ≤ j → ¬ M.S b j))

/-- A value in a place that may own. -/
def Has (M : Mem) (key : Key) : AV → Value → Prop
  | .sl (.own m) s xs, v => OwnArr M key m s xs v
  | x, v => RepV M.S M.G M.w x v

/-- A block whose cells are just cs. -/
def CellsAre (M : Mem) (ck : Nat → Key) (b : Nat) (cs : List AV) : Prop :=
  ∃ c e fr, M.w.heap[b]? = some (.cells c e fr) ∧ c.size = cs.length ∧ (∀ j, j < c.size → (decide (fr.1 ≤ j) && decide (j < fr.2)) = false) ∧
    ∀ k x, cs[k]? = some x → ∃ v, c[k]? = some v ∧ v.cells = #[v] ∧ Has M (ck k) x v

def LBox (M : Mem) (bk : Key) (ck : Nat → Key) (cs : List AV) (v : Value) : Prop :=
  ∃ b, v = .pointer (some ⟨b, 0, none⟩) ∧ M.own b = some bk ∧ (∀ j, ¬ M.S b j) ∧ CellsAre M ck b cs

def TupRep (M : Mem) (ck : Nat → Key) (vs : List AV) (v : Value) : Prop :=
  ∃ a : Array Value, v = .tuple a ∧ a.size = vs.length ∧ ∀ k x, vs[k]? = some x → ∃ u, a[k]? = some u ∧ Has M (ck k) x u

/-- What variable i says. -/
def VRep (M : Mem) (i : Nat) : AV → Value → Prop
  | .lbox cs, v => LBox M (.lb i) (fun k => .v i (k + 1)) cs v
  | x, v => Has M (.v i 0) x v

/-- Variable i (off: 0) or a cell of its box owns ys, and its value is v. -/
def Owner (M : Mem) (vars : List AV) (vv : Nat → Value) (i off : Nat) (m : Bool) (s : Nat) (ys : List AV) (v : Value) : Prop :=
  (off = 0 ∧ vars[i]? = some (.sl (.own m) s ys) ∧ v = vv i) ∨
  (∃ k cs b, off = k + 1 ∧ vars[i]? = some (.lbox cs) ∧ cs[k]? = some (.sl (.own m) s ys) ∧ vv i = .pointer (some ⟨b, 0, none⟩) ∧ cellAt M.w b k = some v)

/-- A view, from element vo on, of an array of ys that is the value v0. -/
def View (s : Nat) (ys : List AV) (v0 : Value) (vo : Nat) (xs : List AV) (v : Value) : Prop :=
  (vo = 0 ∧ xs = ys ∧ v = v0) ∨ (xs = [] ∧ (v = .slice none 0 0 ∨ ∃ b o cap, v = .slice (some ⟨b, o, none⟩) 0 cap ∧ (ys = [] → cap = 0))) ∨
  (∃ b o C cap, v0 = .slice (some ⟨b, o, none⟩) ys.length C ∧ vo + xs.length ≤ ys.length ∧ xs = (ys.drop vo).take xs.length ∧
    v = .slice (some ⟨b, o + vo * s, none⟩) xs.length cap ∧ xs.length ≤ cap ∧ cap ≤ C)

inductive Obj where
  | cells (cs : List AV)
  | map (es : List (AV × AV))
  | gone
  deriving Inhabited

/-- The same of an object's cell. -/
def GOwner (M : Mem) (store : List Obj) (id off : Nat) (m : Bool) (s : Nat) (ys : List AV) (v : Value) : Prop :=
  ∃ cs b, store[id]? = some (.cells cs) ∧ cs[off]? = some (.sl (.own m) s ys) ∧ M.G id = some b ∧ cellAt M.w b off = some v

/-- What a temporary says; kt: its keys. -/
def TRep (M : Mem) (vars : List AV) (store : List Obj) (vv : Nat → Value) (kt : Nat → Key) : AV → Value → Prop
  | .tup vs, v => TupRep M (fun k => kt (k + 1)) vs v
  | .sl (.of i off vo m) s xs, v => ∃ ys v0, Owner M vars vv i off m s ys v0 ∧ View s ys v0 vo xs v
  | .sl (.ofg id off vo m) s xs, v => ∃ ys v0, GOwner M store id off m s ys v0 ∧ View s ys v0 vo xs v
  | .eptr (.of i off vo m) s xs j o, v => ∃ ys b p C, Owner M vars vv i off m s ys (.slice (some ⟨b, p, none⟩) ys.length C) ∧
      vo + xs.length ≤ ys.length ∧ xs = (ys.drop vo).take xs.length ∧ j < xs.length ∧ v = .pointer (some ⟨b, p + (vo + j) * s + o, none⟩)
  | .eptr (.ofg id off vo m) s xs j o, v => ∃ ys b p C, GOwner M store id off m s ys (.slice (some ⟨b, p, none⟩) ys.length C) ∧
      vo + xs.length ≤ ys.length ∧ xs = (ys.drop vo).take xs.length ∧ j < xs.length ∧ v = .pointer (some ⟨b, p + (vo + j) * s + o, none⟩)
  | .lptr i off, v => ∃ b cs, vars[i]? = some (.lbox cs) ∧ vv i = .pointer (some ⟨b, 0, none⟩) ∧ v = .pointer (some ⟨b, off, none⟩)
  | x', v => Has M (kt 0) x' v

/-- A map's entries, in the order in which they came. -/
def Entries (M : Mem) (id : Nat) : Nat → List (AV × AV) → List MapEntry → Prop
  | _, [], es => es = []
  | n, (k, x) :: r, es => ∃ e t, es = e :: t ∧ RepV M.S M.G M.w k e.key ∧ Has M (.g id n) x e.val ∧ Entries M id (n + 1) r t

def ObjRep (M : Mem) (id : Nat) : Obj → Prop
  | .cells cs => ∃ b, M.G id = some b ∧ M.own b = some (.gb id) ∧ (∀ j, ¬ M.S b j) ∧ CellsAre M (fun k => .g id k) b cs
  | .map es => ∃ b l clock, M.G id = some b ∧ M.own b = some (.mp id) ∧ M.w.heap[b]? = some (.map l clock) ∧
      (∀ e ∈ l.toList, e.born < clock) ∧ (l.toList.map (·.born)).Nodup ∧ Entries M id 0 es l.toList
  | .gone => True

def StoreRep (M : Mem) (store : List Obj) : Prop := (∀ id o, store[id]? = some o → ObjRep M id o) ∧ ∀ id b, M.G id = some b → id < store.length

structure St where
  vars : List AV
  tmps : List (Nat × AV)
  store : List Obj
  deriving Inhabited

def look (x : Nat) : List (Nat × AV) → AV
  | [] => .undef
  | (y, v) :: r => if x = y then v else look x r

/-- What the abstract state says of a frame. -/
structure FR (M : Mem) (slots : List Nat) (n : Nat) (st : St) (a : Act) : Prop where
  wf : M.Wf
  size : a.tmps.size = n
  defers : a.defers = []
  len : st.vars.length = slots.length
  nodup : slots.Nodup
  lt : ∀ x ∈ slots, x < n
  vars : ∀ i x av, slots[i]? = some x → st.vars[i]? = some av → VRep M i av (a.tmps.getD x undef)
  tmps : ∀ x, x ∉ slots → TRep M st.vars st.store (fun i => a.tmps.getD (slots.getD i n) undef) (Key.t x) (look x st.tmps) (a.tmps.getD x undef)
  store : StoreRep M st.store

/-- From M on M' is come to. -/
structure Evo (M M' : Mem) : Prop where
  grow : Grow M.S M.G M.w M'.S M'.G M'.w
  size : M.w.heap.size ≤ M'.w.heap.size
  os : M'.w.os = M.w.os
  tape : M'.w.tape = M.w.tape
  output : M'.w.output = M.w.output
  same : ∀ b, b < M.w.heap.size → M.own b = none → M'.w.heap[b]? = M.w.heap[b]?
  acq : ∀ b, b < M.w.heap.size → M.own b = none → M'.own b = none
  snew : ∀ b j, M'.S b j → M.S b j ∨ M.w.heap.size ≤ b ∨ M.own b ≠ none

theorem Evo.refl (M : Mem) : Evo M M := ⟨Grow.refl _ _ _, Nat.le_refl _, rfl, rfl, rfl, fun _ _ _ => rfl, fun _ _ h => h, fun _ _ h => .inl h⟩

theorem Evo.trans {A B C : Mem} (h : Evo A B) (k : Evo B C) : Evo A C where
  grow := h.grow.trans k.grow
  size := Nat.le_trans h.size k.size
  os := k.os.trans h.os
  tape := k.tape.trans h.tape
  output := k.output.trans h.output
  same b hb ho := (k.same b (Nat.lt_of_lt_of_le hb h.size) (h.acq b hb ho)).trans (h.same b hb ho)
  acq b hb ho := k.acq b (Nat.lt_of_lt_of_le hb h.size) (h.acq b hb ho)
  snew b j hs := by
    rcases k.snew b j hs with h' | h' | h'
    · exact h.snew b j h'
    · exact .inr (.inl (Nat.le_trans h.size h'))
    · rcases Nat.lt_or_ge b A.w.heap.size with hb | hb
      · refine .inr (.inr fun ho => h' (h.acq b hb ho))
      · exact .inr (.inl hb)

/-- A block that stays as it is, with its owner, and of which no more cells stay for ever. -/
structure Pres (M M' : Mem) (b : Nat) : Prop where
  own : M'.own b = M.own b
  heap : M'.w.heap[b]? = M.w.heap[b]?
  sub : ∀ j, M'.S b j → M.S b j

theorem cellAt_of_heap {w w' : World} {b : Nat} (h : w'.heap[b]? = w.heap[b]?) (j : Nat) : cellAt w' b j = cellAt w b j := by
  simp [cellAt, World.cell?, h]

theorem Room.of_heap {w w' : World} {b n : Nat} (h : w'.heap[b]? = w.heap[b]?) (r : Room w b n) : Room w' b n := by
  obtain ⟨c, e, fr, hc, hr⟩ := r
  exact ⟨c, e, fr, h.trans hc, hr⟩

section
variable {M M' : Mem}
theorem OwnArr.pres {key : Key} {m : Bool} {s : Nat} {xs : List AV} {v : Value} (g : Grow M.S M.G M.w M'.S M'.G M'.w) (hp : ∀ b, M.own b = some key → Pres M M' b)
    (h : OwnArr M key m s xs v) : OwnArr M' key m s xs v := by
  rcases h with h | ⟨hne, b, o, cap, hv, ho, hc, hE, hR, ht, hf⟩
  · exact .inl h
  · have p := hp b ho
    refine .inr ⟨hne, b, o, cap, hv, p.own.trans ho, hc, Els.mono g xs o (fun j _ => cellAt_of_heap p.heap _) hE, hR.of_heap p.heap, fun hm j hs => ht hm j (p.sub j hs), fun hm => ?_⟩
    exact ⟨fun j hj => g.sub _ _ ((hf hm).1 j hj), fun j hj hs => (hf hm).2 j hj (p.sub j hs)⟩

theorem Has.pres {key : Key} {x : AV} {v : Value} (g : Grow M.S M.G M.w M'.S M'.G M'.w) (hp : ∀ b, M.own b = some key → Pres M M' b)
    (h : Has M key x v) : Has M' key x v := by
  unfold Has at *
  split at h
  · exact OwnArr.pres g hp h
  · exact RepV.mono g h

theorem CellsAre.pres {ck : Nat → Key} {b : Nat} {cs : List AV} (g : Grow M.S M.G M.w M'.S M'.G M'.w) (hb : M'.w.heap[b]? = M.w.heap[b]?)
    (hp : ∀ k b, M.own b = some (ck k) → Pres M M' b) (h : CellsAre M ck b cs) : CellsAre M' ck b cs := by
  obtain ⟨c, e, fr, hc, hl, hf, hx⟩ := h
  refine ⟨c, e, fr, hb.trans hc, hl, hf, fun k x hk => ?_⟩
  obtain ⟨v, hv, h1, hh⟩ := hx k x hk
  exact ⟨v, hv, h1, hh.pres g (hp k)⟩

theorem LBox.pres {bk : Key} {ck : Nat → Key} {cs : List AV} {v : Value} (g : Grow M.S M.G M.w M'.S M'.G M'.w)
    (hb : ∀ b, M.own b = some bk → Pres M M' b) (hp : ∀ k b, M.own b = some (ck k) → Pres M M' b) (h : LBox M bk ck cs v) : LBox M' bk ck cs v := by
  obtain ⟨b, hv, ho, hS, hC⟩ := h
  exact ⟨b, hv, (hb b ho).own.trans ho, fun j hj => hS j ((hb b ho).sub j hj), hC.pres g (hb b ho).heap hp⟩

theorem TupRep.pres {ck : Nat → Key} {vs : List AV} {v : Value} (g : Grow M.S M.G M.w M'.S M'.G M'.w)
    (hp : ∀ k b, M.own b = some (ck k) → Pres M M' b) (h : TupRep M ck vs v) : TupRep M' ck vs v := by
  obtain ⟨a, hv, hl, hx⟩ := h
  refine ⟨a, hv, hl, fun k x hk => ?_⟩
  obtain ⟨u, hu, hh⟩ := hx k x hk
  exact ⟨u, hu, hh.pres g (hp k)⟩

/-- The keys of variable i. -/
def Key.ofVar (i : Nat) : Key → Prop
  | .v j _ | .lb j => j = i
  | _ => False
def Key.ofTmp (x : Nat) : Key → Prop
  | .t y _ => y = x
  | _ => False
def Key.ofObj (id : Nat) : Key → Prop
  | .g j _ | .gb j | .mp j => j = id
  | _ => False

theorem VRep.pres {i : Nat} {x : AV} {v : Value} (g : Grow M.S M.G M.w M'.S M'.G M'.w) (hp : ∀ b k, M.own b = some k → k.ofVar i → Pres M M' b)
    (h : VRep M i x v) : VRep M' i x v := by
  unfold VRep at *
  split at h
  · exact h.pres g (fun b hb => hp b _ hb rfl) (fun k b hb => hp b _ hb rfl)
  · exact h.pres g (fun b hb => hp b _ hb rfl)

theorem Entries.pres {id : Nat} (g : Grow M.S M.G M.w M'.S M'.G M'.w) (hp : ∀ b k, M.own b = some k → k.ofObj id → Pres M M' b) :
    ∀ {es : List (AV × AV)} {n : Nat} {l : List MapEntry}, Entries M id n es l → Entries M' id n es l
  | [], _, _, h => h
  | (k, x) :: r, n, l, h => by
    obtain ⟨e, t, hl, hk, hx, hr⟩ := h
    exact ⟨e, t, hl, RepV.mono g hk, hx.pres g (fun b hb => hp b _ hb rfl), Entries.pres g hp hr⟩

theorem ObjRep.pres {id : Nat} {o : Obj} (g : Grow M.S M.G M.w M'.S M'.G M'.w) (hp : ∀ b k, M.own b = some k → k.ofObj id → Pres M M' b)
    (h : ObjRep M id o) : ObjRep M' id o := by
  cases o with
  | cells cs =>
    obtain ⟨b, hG, ho, hS, hC⟩ := h
    have p := hp b _ ho rfl
    exact ⟨b, g.lay _ _ hG, p.own.trans ho, fun j hj => hS j (p.sub j hj), hC.pres g p.heap (fun k b hb => hp b _ hb rfl)⟩
  | map es =>
    obtain ⟨b, l, clock, hG, ho, hh, hb, hn, hE⟩ := h
    have p := hp b _ ho rfl
    exact ⟨b, l, clock, g.lay _ _ hG, p.own.trans ho, p.heap.trans hh, hb, hn, hE.pres g hp⟩
  | gone => trivial
end

end Go.VS
/- The abstract code and its interpreter. -/
namespace Go.VS

inductive Ref where
  | v (i : Nat)
  | t (x : Nat)
  | c (a : AV)
  deriving Inhabited

/-- Where a result goes: a variable (m: it may be written in place), a temporary. -/
inductive Dst where
  | v (i : Nat) (m : Bool)
  | t (x : Nat)
  | n
  deriving Inhabited

inductive AOp where
  | mv (d : Dst) (x : Ref)
  | take (i : Nat) (m : Bool) (x : Nat)
  | pick (d : Dst) (c a b : Ref)
  | bin (d : Dst) (op : BinOp) (x y : Ref)
  | eqv (d : Dst) (neg : Bool) (x y : Ref)
  | niq (d : Dst) (neg : Bool) (x : Ref)
  | un (d : Dst) (op : UnOp) (x : Ref)
  | mnx (d : Dst) (mx : Bool) (x y : Ref)
  | len (d : Dst) (str : Bool) (x : Ref)
  | idx (d : Dst) (x i : Ref)
  | iad (d : Dst) (s : Nat) (x i : Ref)
  | iada (d : Dst) (n s : Nat) (x i : Ref)
  | fad (d : Dst) (off : Nat) (x : Ref)
  | fld (d : Dst) (off : Nat) (sz : Option Nat) (x : Ref)
  | ld (d : Dst) (sz : Option Nat) (x : Ref)
  | sto (sz : Option Nat) (x v : Ref)
  | slc (d : Dst) (str : Bool) (s : Nat) (x : Ref) (lo hi : Option Ref)
  | mks (d : Dst) (zero : AV) (s eb : Nat) (n : Ref)
  | lit (d : Dst) (s : Nat) (parts : List Ref)
  | bld (d : Dst) (zero : List AV) (parts : List (Nat × Nat × Ref))
  | alo (i : Nat) (zero : List AV)
  | box (i : Nat) (x : Ref)
  | app (d : Dst) (s eb : Nat) (x y : Ref)
  | cvi (d : Dst) (k : IntKind) (x : Ref)
  | b2s (d : Dst) (x : Ref)
  | s2b (d : Dst) (x : Ref)
  | call (d : Dst) (f : FuncId) (args : List Ref)
  | callo (d : Dst) (f : FuncId) (x : Ref)
  | callr (d : Dst) (f : FuncId) (args : List Ref)
  | callv (d : Dst) (f : Ref) (args : List Ref)
  | ext (d : Dst) (x k : Nat)
  | mkf (d : Dst) (f : FuncId) (caps : List Ref)
  | mkq (d : Dst) (f : FuncId) (i : Nat)
  | nck (d : Dst) (x : Ref)
  | g (x : Ref) (want : Bool) (ds : List Dst) (op : AOp)
  deriving Inhabited

inductive AC where
  | skip
  | frz (i : Nat) (c : AC)
  | ops (dr : Bool) (l : List AOp)
  | ite (c : Ref) (a b : AC)
  | seq (a b : AC)
  | block (id : Nat) (c : AC)
  | loop (kill : List Nat) (c : AC)
  | sc (kill : List Nat) (c : AC)
  | scope (kill : List Nat) (c cur : AC)
  | label (l : Nat)
  | goto (l : Nat)
  | exit (id : Nat)
  | ret
  deriving Inhabited

inductive Out where
  | norm
  | exit (id : Nat)
  | goto (l : Nat)
  | ret
  deriving DecidableEq, Inhabited

/-- What a function answers: a variable's value, or what lies in its box. -/
inductive ARes where
  | v (i : Nat)
  | cell (i : Nat) (sz : Option Nat)
  deriving Inhabited

structure AFunc where
  slots : List Nat
  n : Nat
  body : AC
  res : List ARes
  deriving Inhabited

abbrev CallSem := FuncId → List AV → List Obj → Option (AV × List Obj)

inductive AFn where
  | code (f : AFunc)
  | prim (f : List AV → List Obj → Option (AV × List Obj))

/-! ### reading -/
def cellsOf : AV → List AV
  | .agg cs => cs
  | v => [v]

def view (i : Nat) : AV → AV
  | .sl (.own m) s xs => .sl (.of i 0 0 m) s xs
  | .lbox _ => .lptr i 0
  | v => v

def rd (st : St) : Ref → AV
  | .v i => view i (st.vars.getD i .undef)
  | .t x => look x st.tmps
  | .c a => a

def unr (i : Nat) : AV → AV
  | .sl (.of j off vo m) s xs => if j = i then (if m then .undef else .sl .none s xs) else .sl (.of j off vo m) s xs
  | .eptr (.of j off vo m) s xs k o => if j = i then (if m then .undef else .eptr .none s xs k o) else .eptr (.of j off vo m) s xs k o
  | .lptr j off => if j = i then .undef else .lptr j off
  | v => v

def unref (i : Nat) : List (Nat × AV) → List (Nat × AV)
  | [] => []
  | (x, v) :: r => (x, unr i v) :: unref i r

def setV (st : St) (i : Nat) (av : AV) : St := { st with vars := st.vars.set i av, tmps := unref i st.tmps }

/-- Values that own nothing and point to no variable. -/
def plain : AV → Bool
  | .sl .none _ _ | .sl .full _ _ => true
  | .sl _ _ _ => false
  | .eptr .none _ _ _ _ => true
  | .eptr _ _ _ _ _ => false
  | .lptr _ _ | .lbox _ | .tup _ | .undef => false
  | _ => true

def put (st : St) : Dst → AV → Option St
  | .t x, av => some { st with tmps := (x, av) :: st.tmps }
  | .n, _ => some st
  | .v i m, .sl (.own m') s xs => some (setV st i (.sl (.own (m && m')) s xs))
  | .v i _, .sl (.of _ _ _ m') s xs => if m' then none else some (setV st i (.sl .none s xs))
  | .v i _, .sl (.ofg _ _ _ m') s xs => if m' then none else some (setV st i (.sl .none s xs))
  | .v i m, .sl .full s [] => some (setV st i (.sl (.own m) s []))
  | .v i _, .undef => some (setV st i .undef)
  | .v i _, av => if plain av then some (setV st i av) else none

def kill (st : St) (x : Nat) (av : AV) : St := { st with tmps := (x, av) :: st.tmps }

/-- An operand that is handed on: its value as one that stays; a temporary's own array stays from now on. -/
def pers (st : St) : Ref → Option (AV × St)
  | .t x => match look x st.tmps with
    | .sl (.own _) s xs => some (.sl .none s xs, kill st x (.sl .none s xs))
    | .sl (.of _ _ _ m) s xs => if m then none else some (.sl .none s xs, st)
    | .sl (.ofg _ _ _ m) s xs => if m then none else some (.sl .none s xs, st)
    | av => if plain av then some (av, st) else none
  | r => match rd st r with
    | .sl (.of _ _ _ m) s xs => if m then none else some (.sl .none s xs, st)
    | av => if plain av then some (av, st) else none

def persL (st : St) : List Ref → Option (List AV × St)
  | [] => some ([], st)
  | r :: rs => match pers st r with
    | some (a, st') => match persL st' rs with
      | some (as, st'') => some (a :: as, st'')
      | none => none
    | none => none

/-- What is read of the objects' arrays is gone once an object may have changed. -/
def unG : List (Nat × AV) → List (Nat × AV)
  | [] => []
  | (x, v) :: r => (x, match v with | .sl (.ofg _ _ _ _) _ _ => .undef | .eptr (.ofg _ _ _ _) _ _ _ _ => .undef | v => v) :: unG r

/-! ### scalars -/
def bitsOp (k : IntKind) (f : BitVec k.bits → BitVec k.bits → BitVec k.bits) (x y : Int) : Int :=
  k.wrap (f (BitVec.ofInt k.bits x) (BitVec.ofInt k.bits y)).toNat

def intBin (op : BinOp) (k : IntKind) (x y : Int) : Option AV :=
  match op with
  | .add => some (.int k (k.wrap (x + y)))
  | .sub => some (.int k (k.wrap (x - y)))
  | .mul => some (.int k (k.wrap (x * y)))
  | .quo => if y = 0 then none else some (.int k (k.wrap (x.tdiv y)))
  | .rem => if y = 0 then none else some (.int k (x.tmod y))
  | .and => some (.int k (bitsOp k (· &&& ·) x y))
  | .or => some (.int k (bitsOp k (· ||| ·) x y))
  | .xor => some (.int k (bitsOp k (· ^^^ ·) x y))
  | .andNot => some (.int k (bitsOp k (fun a b => a &&& ~~~b) x y))
  | .eql => some (.bool (x == y))
  | .neq => some (.bool (x != y))
  | .lss => some (.bool (decide (x < y)))
  | .leq => some (.bool (decide (x ≤ y)))
  | .gtr => some (.bool (decide (x > y)))
  | .geq => some (.bool (decide (x ≥ y)))
  | _ => none

def intShift (op : BinOp) (k : IntKind) (x y : Int) : Option AV :=
  if y < 0 then none else
    match op with
    | .shl => some (.int k (k.wrap (x * 2 ^ min y.toNat k.bits)))
    | .shr => some (.int k (x.fdiv (2 ^ min y.toNat k.bits)))
    | _ => none

def strBin (op : BinOp) (x y : List UInt8) : Option AV :=
  match op with
  | .add => if x.length + y.length ≤ 2147483648 then some (.str (x ++ y)) else none
  | .eql => some (.bool (x == y))
  | .neq => some (.bool (!(x == y)))
  | .lss => some (.bool (Op.bytesLess x y))
  | .leq => some (.bool (Op.bytesLess x y || x == y))
  | .gtr => some (.bool (!(Op.bytesLess x y || x == y)))
  | .geq => some (.bool (!Op.bytesLess x y))
  | _ => none

def isShift : BinOp → Bool
  | .shl | .shr => true
  | _ => false

def binop (op : BinOp) : AV → AV → Option AV
  | .int k x, .int k' y => if isShift op then intShift op k x y else if k = k' then intBin op k x y else none
  | .str x, .str y => strBin op x y
  | _, _ => none

def unop (op : UnOp) : AV → Option AV
  | .bool b => match op with | .not => some (.bool !b) | _ => none
  | .int k n => match op with
    | .neg => some (.int k (k.wrap (0 - n)))
    | .xor => some (.int k (bitsOp k (· ^^^ ·) (if k.signed then -1 else k.max) n))
    | _ => none
  | _ => none

def decByte : AV → Option UInt8
  | .int .u8 n => some (UInt8.ofNat n.toNat)
  | _ => none

def decBytes : List AV → Option (List UInt8)
  | [] => some []
  | x :: xs => match decByte x, decBytes xs with
    | some b, some r => some (b :: r)
    | _, _ => none

def encByte (b : UInt8) : AV := .int .u8 b.toNat

def toIdx : AV → Option Int
  | .int _ n => some n
  | _ => none

/-- A part of an element's cells. -/
def partOf : AV → Nat → Option Nat → Option AV
  | .undef, _, _ => none
  | x, off, none => match (cellsOf x)[off]? with
    | some c => if oneCell c then some c else none
    | none => none
  | x, off, some n => if off + n ≤ (cellsOf x).length then some (.agg (((cellsOf x).drop off).take n)) else none

/-- What was read of a box's cell. -/
def cellView (i k : Nat) : AV → AV
  | .sl (.own m) s xs => .sl (.of i (k + 1) 0 m) s xs
  | v => v

/-- A cell's value in a struct that is read whole. -/
def cellWhole : AV → Option AV
  | .sl (.own m) s xs => if m then none else some (.sl .none s xs)
  | v => if plain v && oneCell v then some v else none

def wholes : List AV → Option (List AV)
  | [] => some []
  | c :: cs => match cellWhole c, wholes cs with
    | some a, some r => some (a :: r)
    | _, _ => none

/-- How a value stands in a box's cell. -/
def intoCell : AV → AV
  | .sl .full s [] => .sl (.own false) s []
  | v => v

def setCells (cs : List AV) (off : Nat) : List AV → List AV
  | [] => cs
  | v :: vs => setCells (cs.set off (intoCell v)) (off + 1) vs

def lim : Nat := 2147483648

section
variable (CS : CallSem) (RP : FuncId → Option (List AV → Option AV))

/-- The elements that an append puts behind. -/
def elemsOf (s : Nat) : AV → Option (List AV)
  | .sl _ s' ys => if s' = s then some ys else none
  | .str l => if s = 1 then some (l.map encByte) else none
  | _ => none

/-- Who owned an array owns it no more. -/
def disown (st : St) (i off : Nat) (m : Bool) (s : Nat) (xs : List AV) : Option St :=
  match off with
  | 0 => some (setV st i (if m then .undef else .sl .none s xs))
  | k + 1 => match st.vars[i]? with
    | some (.lbox cs) => some (setV st i (.lbox (cs.set k (if m then .undef else .sl .none s xs))))
    | _ => none

def ownerLen (st : St) (i off : Nat) : Nat :=
  match off with
  | 0 => match st.vars[i]? with
    | some (.sl (.own _) _ ys) => ys.length
    | _ => 0
  | k + 1 => match st.vars[i]? with
    | some (.lbox cs) => match cs[k]? with
      | some (.sl (.own _) _ ys) => ys.length
      | _ => 0
    | _ => 0

/-- An operand whose array is given away. -/
def give (st : St) (r : Ref) : Option (AV × St) :=
  match rd st r, r with
  | .sl (.own m) s xs, .t x => some (.sl (.own m) s xs, kill st x .undef)
  | .sl .full s [], _ => some (.sl (.own true) s [], st)
  | .sl (.of j off vo m) s xs, _ => if vo = 0 then (if xs.length = ownerLen st j off then (match disown st j off m s xs with
    | some st' => some (.sl (.own m) s xs, st')
    | none => none) else none) else none
  | _, _ => none

def runApp (st : St) (d : Dst) (s eb : Nat) (x y : Ref) : Option St :=
  match elemsOf s (rd st y) with
  | none => none
  | some ys =>
    if eb ≤ 4096 then
      match rd st x, x with
      | .sl .full s' [], _ => if s' = s then (if ys.length ≤ lim then put st d (.sl (.own true) s ys) else none) else none
      | .sl (.own m) s' xs, .t t => if s' = s then (if xs.length + ys.length ≤ lim then put (kill st t .undef) d (.sl (.own m) s (xs ++ ys)) else none) else none
      | .sl (.of i off vo m) s' xs, _ =>
        if s' = s then
          if vo = 0 then
            if xs.length = ownerLen st i off then
              if xs.length + ys.length ≤ lim then
                match disown st i off m s xs with
                | some st' => put st' d (.sl (.own m) s (xs ++ ys))
                | none => none
              else none
            else none
          else none
        else none
      | _, _ => none
    else none

def runLd (st : St) (d : Dst) (sz : Option Nat) (x : Ref) : Option St :=
  match rd st x with
  | .eptr _ _ xs i off => match xs[i]? with
    | some e => match partOf e off sz with
      | some v => put st d v
      | none => none
    | none => none
  | .lptr i off => match st.vars[i]? with
    | some (.lbox cs) => match sz with
      | none => match cs[off]? with
        | some c => put st d (cellView i off c)
        | none => none
      | some n => if off + n ≤ cs.length then
          match wholes ((cs.drop off).take n) with
          | some l => put st d (.agg l)
          | none => none
        else none
    | _ => none
  | _ => none

def stoCell (st : St) (i off : Nat) (c : AV) : Option St :=
  match st.vars[i]? with
  | some (.lbox cs) => if off < cs.length then (if oneCell c then some (setV st i (.lbox (cs.set off c))) else none) else none
  | _ => none

def setElem (e : AV) (off : Nat) (a : AV) : Option AV :=
  match e with
  | .undef => none
  | .agg cs => if off < cs.length then some (.agg (cs.set off a)) else none
  | _ => if off = 0 then some a else none

def runSto (st : St) (sz : Option Nat) (x v : Ref) : Option St :=
  match rd st x with
  | .lptr i off => match sz with
    | none => match v with
      | .t t => match look t st.tmps with
        | .sl (.own _) s xs => stoCell (kill st t .undef) i off (.sl (.own false) s xs)
        | _ => match pers st v with
          | some (a, st') => stoCell st' i off (intoCell a)
          | none => none
      | _ => match pers st v with
        | some (a, st') => stoCell st' i off (intoCell a)
        | none => none
    | some n => match pers st v with
      | some (.agg l, st') => match st'.vars[i]? with
        | some (.lbox cs) => if l.length = n then (if off + n ≤ cs.length then some (setV st' i (.lbox (setCells cs off l))) else none) else none
        | _ => none
      | _ => none
  | .eptr (.of i 0 vo true) s _ j off => match sz, pers st v with
    | none, some (a, st') => match st'.vars[i]? with
      | some (.sl (.own true) s' ys) =>
        if s' = s then
          if oneCell a then
            match ys[vo + j]? with
            | some e => match setElem e off a with
              | some e' => some (setV st' i (.sl (.own true) s (ys.set (vo + j) e')))
              | none => none
            | none => none
          else none
        else none
      | _ => none
    | _, _ => none
  | _ => none

def optIdx (st : St) : Option Ref → Option (Option Nat)
  | none => some none
  | some r => match rd st r with
    | .int _ n => if 0 ≤ n then some (some n.toNat) else none
    | _ => none

def freezeT (st : St) : Ref → St
  | .t x => match look x st.tmps with
    | .sl (.own _) s xs => kill st x (.sl .none s xs)
    | _ => st
  | _ => st

def runSlc (st : St) (d : Dst) (str : Bool) (s : Nat) (x : Ref) (lo hi : Option Ref) : Option St :=
  match optIdx st lo, optIdx st hi with
  | some lo, some hi =>
    match str, rd st x with
    | true, .str l =>
      if lo.getD 0 ≤ hi.getD l.length then
        (if hi.getD l.length ≤ l.length then put st d (.str ((l.drop (lo.getD 0)).take (hi.getD l.length - lo.getD 0))) else none)
      else none
    | false, .sl o s' xs =>
      if s' = s then
      if lo.getD 0 ≤ hi.getD xs.length then
        (if hi.getD xs.length ≤ xs.length then
          (let ys := (xs.drop (lo.getD 0)).take (hi.getD xs.length - lo.getD 0)
           match o with
           | .of i off vo m => put st d (.sl (.of i off (vo + lo.getD 0) m) s ys)
           | .ofg _ _ _ _ => none
           | _ => put (freezeT st x) d (.sl .none s ys))
        else none)
      else none
      else none
    | _, _ => none
  | _, _ => none

def setPart (cs : List AV) (off sz : Nat) (a : AV) : Option (List AV) :=
  if (cellsOf a).length = sz then (if off + sz ≤ cs.length then some (cs.take off ++ cellsOf a ++ cs.drop (off + sz)) else none) else none

def buildCells (st : St) (cs : List AV) : List (Nat × Nat × Ref) → Option (List AV × St)
  | [] => some (cs, st)
  | (off, sz, r) :: ps => match pers st r with
    | some (a, st') => match setPart cs off sz a with
      | some cs' => buildCells st' cs' ps
      | none => none
    | none => none

def elemOk (s : Nat) (a : AV) : Bool := (cellsOf a).length == s

/-- What a skipped operation leaves. -/
def skipV : Dst → AV
  | .t _ => .tup []
  | _ => .undef

def skipD (st : St) (ds : List Dst) : Option St := ds.foldl (fun st d => st.bind fun st => put st d (skipV d)) (some st)

/-- The results of a call, as a temporary has them. -/
def runOp (st : St) : AOp → Option St
  | .mv d x => match x with
    | .t y => match look y st.tmps with
      | .sl (.own m) s xs => put (kill st y .undef) d (.sl (.own m) s xs)
      | .tup vs => put (kill st y .undef) d (.tup vs)
      | v => put st d v
    | _ => put st d (rd st x)
  | .take i m x => match look x st.tmps with
    | .sl (.of j 0 0 m') s xs =>
      if xs.length = ownerLen st j 0 then
        (match disown st j 0 m' s xs with
         | some st' => put st' (.v i m) (.sl (.own m') s xs)
         | none => none)
      else none
    | .sl (.own m') s xs => put (kill st x .undef) (.v i m) (.sl (.own m') s xs)
    | .tup _ => none
    | v => put st (.v i m) v
  | .pick d c a b => match rd st c with
    | .bool t => if t then (match pers st a with | some (v, st') => put st' d v | none => none)
                 else (match pers st b with | some (v, st') => put st' d v | none => none)
    | _ => none
  | .bin d op x y => match binop op (rd st x) (rd st y) with
    | some v => put st d v
    | none => none
  | .eqv d neg x y => match rd st x, rd st y with
    | .bool a, .bool b => put st d (.bool (if neg then !(a == b) else a == b))
    | _, _ => none
  | .niq d neg x => match rd st x with
    | .sl _ _ (_ :: _) => put st d (.bool neg)
    | _ => none
  | .mnx d mx x y => match rd st x, rd st y with
    | .int k a, .int k' b => if k = k' then put st d (.int k (if mx then (if b > a then b else a) else (if b < a then b else a))) else none
    | _, _ => none
  | .un d op x => match unop op (rd st x) with
    | some v => put st d v
    | none => none
  | .len d str x => match str, rd st x with
    | true, .str l => put st d (.int .i64 l.length)
    | false, .sl _ _ xs => put st d (.int .i64 xs.length)
    | _, _ => none
  | .idx d x i => match rd st x, rd st i with
    | .str l, .int _ n => if 0 ≤ n then (match l[n.toNat]? with | some b => put st d (encByte b) | none => none) else none
    | _, _ => none
  | .iad d s x i => match rd st x, rd st i with
    | .sl o s' xs, .int _ n =>
      if s' = s then
        if 0 ≤ n then
          if n.toNat < xs.length then
            (match o with
             | .of j off vo m => put st d (.eptr (.of j off vo m) s xs n.toNat 0)
             | .ofg _ _ _ _ => none
             | _ => put (freezeT st x) d (.eptr .none s xs n.toNat 0))
          else none
        else none
      else none
    | _, _ => none
  | .iada d n s x i => match rd st x, rd st i with
    | .lptr j off, .int _ k => if 0 ≤ k then (if k.toNat < n then put st d (.lptr j (off + k.toNat * s)) else none) else none
    | _, _ => none
  | .fad d off x => match rd st x with
    | .lptr j o => put st d (.lptr j (o + off))
    | .eptr ow s xs i o => put st d (.eptr ow s xs i (o + off))
    | _ => none
  | .fld d off sz x => match rd st x with
    | .agg cs => match partOf (.agg cs) off sz with
      | some v => put st d v
      | none => none
    | _ => none
  | .ld d sz x => runLd st d sz x
  | .sto sz x v => runSto st sz x v
  | .slc d str s x lo hi => runSlc st d str s x lo hi
  | .mks d zero s eb n => match rd st n with
    | .int _ k => if 0 ≤ k then (if k.toNat ≤ lim then (if eb ≤ 4096 then (if elemOk s zero then put st d (.sl (.own true) s (List.replicate k.toNat zero)) else none) else none) else none) else none
    | _ => none
  | .lit d s parts => match persL st parts with
    | some (l, st') => if l.all (elemOk s) then put st' d (match l with | [] => .sl .full s [] | _ => .sl (.own true) s l) else none
    | none => none
  | .bld d zero parts => match buildCells st zero parts with
    | some (cs, st') => put st' d (.agg cs)
    | none => none
  | .alo i zero => some (setV st i (.lbox (zero.map intoCell)))
  | .box i x => match x with
    | .t t => match look t st.tmps with
      | .sl (.own _) s xs => some (setV (kill st t .undef) i (.lbox [.sl (.own false) s xs]))
      | _ => match pers st x with
        | some (a, st') => some (setV st' i (.lbox ((cellsOf a).map intoCell)))
        | none => none
    | _ => match pers st x with
      | some (a, st') => some (setV st' i (.lbox ((cellsOf a).map intoCell)))
      | none => none
  | .app d s eb x y => runApp st d s eb x y
  | .cvi d k x => match rd st x with
    | .int _ n => put st d (.int k (k.wrap n))
    | _ => none
  | .b2s d x => match rd st x with
    | .sl _ 1 xs => match decBytes xs with
      | some l => put st d (.str l)
      | none => none
    | _ => none
  | .s2b d x => match rd st x with
    | .str l => if l.length ≤ lim then put st d (match l with | [] => .sl .none 1 [] | _ => .sl (.own true) 1 (l.map encByte)) else none
    | _ => none
  | .call d f args => match persL st args with
    | some (vs, st') => match CS f vs st'.store with
      | some (r, store') => put { st' with store := store', tmps := unG st'.tmps } d r
      | none => none
    | none => none
  | .callo d f x => match give st x with
    | some (v, st') => match CS f [v] st'.store with
      | some (r, store') => put { st' with store := store', tmps := unG st'.tmps } d r
      | none => none
    | none => none
  | .callr d f args => match RP f with
    | some p => match p (args.map (rd st)) with
      | some r => put st d r
      | none => none
    | none => none
  | .callv d f args => match rd st f, persL st args with
    | .func k caps, some (vs, st') => if caps.all plain then match CS k (vs ++ caps) st'.store with
      | some (r, store') => put { st' with store := store', tmps := unG st'.tmps } d r
      | none => none
      else none
    | _, _ => none
  | .ext d x k => match look x st.tmps with
    | .tup vs => match vs[k]? with
      | some v => put (kill st x (.tup (vs.set k .undef))) d v
      | none => none
    | _ => none
  | .mkf d f caps => match persL st caps with
    | some (vs, st') => if vs.all oneCell then put st' d (.func f vs) else none
    | none => none
  | .mkq d f i => match st.vars[i]? with
    | some (.lbox [.sl .none s xs]) => put (setV st i .undef) d (.seq f s xs)
    | some (.lbox [.sl (.own false) s xs]) => put (setV st i .undef) d (.seq f s xs)
    | _ => none
  | .nck d x => match rd st x with
    | .lptr j o => put st d (.lptr j o)
    | .ptr id o => put st d (.ptr id o)
    | _ => none
  | .g x want ds op => match rd st x with
    | .bool b => if b = want then runOp st op else skipD st ds
    | .tup [] => skipD st ds
    | _ => none

def runOps (st : St) : List AOp → Option St
  | [] => some st
  | o :: os => match runOp CS RP st o with
    | some st' => runOps st' os
    | none => none

def drop (st : St) : St := { st with tmps := [] }

def killV (st : St) : List Nat → St
  | [] => st
  | i :: is => killV (setV st i .undef) is

def findL : AC → Nat → Option AC
  | .seq a b, l => match findL a l with
    | some r => some (.seq r b)
    | none => findL b l
  | .label l', l => if l' = l then some .skip else none
  | .frz _ c, l => findL c l
  | _, _ => none

abbrev CodeSem := AC → St → Option (Out × St)

/-- One unfolding of a piece of code. -/
def stepC (C : CodeSem) : AC → St → Option (Out × St)
  | .skip, st => some (.norm, st)
  | .frz i c, st => match st.vars[i]? with
    | some (.sl (.own _) s xs) => C c (setV st i (.sl (.own false) s xs))
    | _ => none
  | .ops dr l, st => match runOps CS RP st l with
    | some st' => some (.norm, if dr then drop st' else st')
    | none => none
  | .ite c a b, st => match rd st c with
    | .bool t => if t then C a (drop st) else C b (drop st)
    | _ => none
  | .seq a b, st => match C a st with
    | some (.norm, st') => C b st'
    | r => r
  | .block id c, st => match C c st with
    | some (.exit id', st') => if id' = id then some (.norm, st') else some (.exit id', st')
    | r => r
  | .loop ks c, st => match C c (killV st ks) with
    | some (.norm, st') => C (.loop ks c) st'
    | r => r
  | .sc ks c, st => C (.scope ks c c) st
  | .scope ks c cur, st => match C cur st with
    | some (.goto l, st') => match findL c l with
      | some r => C (.scope ks c r) (killV st' ks)
      | none => some (.goto l, st')
    | r => r
  | .label _, st => some (.norm, st)
  | .goto l, st => some (.goto l, st)
  | .exit id, st => some (.exit id, st)
  | .ret, st => some (.ret, st)
end

/-! ### functions -/
def enter (f : AFunc) (args : List AV) (store : List Obj) : St :=
  { vars := f.slots.map fun x => args.getD x .undef, tmps := [], store }

def outV : AV → Option AV
  | .sl .full s [] => some (.sl (.own true) s [])
  | .sl (.own m) s xs => some (.sl (.own m) s xs)
  | v => if plain v then some v else none

def resOf (st : St) : ARes → Option (AV × St)
  | .v i => match st.vars[i]? with
    | some av => match outV av with
      | some r => some (r, setV st i .undef)
      | none => none
    | none => none
  | .cell i sz => match st.vars[i]? with
    | some (.lbox cs) => match sz with
      | none => match cs with
        | [c] => match outV c with
          | some r => some (r, setV st i .undef)
          | none => none
        | _ => none
      | some n => if cs.length = n then (match wholes cs with
          | some l => some (.agg l, st)
          | none => none) else none
    | _ => none

def resL (st : St) : List ARes → Option (List AV)
  | [] => some []
  | r :: rs => match resOf st r with
    | some (a, st') => match resL st' rs with
      | some l => some (a :: l)
      | none => none
    | none => none

def leave (f : AFunc) (st : St) : Option (AV × List Obj) :=
  match resL st f.res with
  | some [a] => some (a, st.store)
  | some l => some (.tup l, st.store)
  | none => none

section
variable (AP : FuncId → Option AFn) (RP : FuncId → Option (List AV → Option AV))

def runF (C : CodeSem) : CallSem := fun k args store =>
  match AP k with
  | some (.code f) => if args.length ≤ f.n && args.all plain then match C f.body (enter f args store) with
    | some (.norm, st) => leave f st
    | some (.ret, st) => leave f st
    | _ => none
    else none
  | some (.prim p) => p args store
  | none => none

def evalC : Nat → CodeSem
  | 0 => fun _ _ => none
  | n + 1 => stepC (runF AP (evalC n)) RP (evalC n)

def evalF (n : Nat) : CallSem := runF AP (evalC AP RP n)
end

end Go.VS
/- How a frame's relation is carried along: from one memory to the next; as a variable, a temporary is set. -/
set_option linter.unusedVariables false
namespace Go.VS

def refV : AV → Nat → Prop
  | .sl (.of i _ _ _) _ _, j => i = j
  | .eptr (.of i _ _ _) _ _ _ _, j => i = j
  | .lptr i _, j => i = j
  | _, _ => False

def refG : AV → Nat → Prop
  | .sl (.ofg i _ _ _) _ _, j => i = j
  | .eptr (.ofg i _ _ _) _ _ _ _, j => i = j
  | _, _ => False

theorem Owner.move {M M' : Mem} {vars vars' : List AV} {vv vv' : Nat → Value} {i off : Nat} {m : Bool} {s : Nat} {ys : List AV} {v : Value}
    (hv : vars'[i]? = vars[i]?) (hvv : vv' i = vv i) (hc : ∀ b, vv i = .pointer (some ⟨b, 0, none⟩) → off ≠ 0 → ∀ j, cellAt M'.w b j = cellAt M.w b j)
    (h : Owner M vars vv i off m s ys v) : Owner M' vars' vv' i off m s ys v := by
  rcases h with ⟨h0, h1, h2⟩ | ⟨k, cs, b, h0, h1, h2, h3, h4⟩
  · exact .inl ⟨h0, hv.trans h1, by rw [hvv]; exact h2⟩
  · exact .inr ⟨k, cs, b, h0, hv.trans h1, h2, by rw [hvv]; exact h3, by rw [hc b h3 (by omega)]; exact h4⟩

theorem GOwner.move {M M' : Mem} {store store' : List Obj} {id off : Nat} {m : Bool} {s : Nat} {ys : List AV} {v : Value}
    (g : ∀ i b, M.G i = some b → M'.G i = some b) (hs : store'[id]? = store[id]?) (hc : ∀ b, M.G id = some b → ∀ j, cellAt M'.w b j = cellAt M.w b j)
    (h : GOwner M store id off m s ys v) : GOwner M' store' id off m s ys v := by
  obtain ⟨cs, b, h1, h2, h3, h4⟩ := h
  exact ⟨cs, b, hs.trans h1, h2, g _ _ h3, by rw [hc b h3]; exact h4⟩

theorem TRep.move {M M' : Mem} {vars vars' : List AV} {store store' : List Obj} {vv vv' : Nat → Value} {kt : Nat → Key} {av : AV} {v : Value}
    (g : Grow M.S M.G M.w M'.S M'.G M'.w) (hx : ∀ b k, M.own b = some (kt k) → Pres M M' b)
    (hv : ∀ j, refV av j → vars'[j]? = vars[j]? ∧ vv' j = vv j ∧ ∀ b, vv j = .pointer (some ⟨b, 0, none⟩) → (∃ cs, vars[j]? = some (.lbox cs)) → ∀ o, cellAt M'.w b o = cellAt M.w b o)
    (hs : ∀ id, refG av id → store'[id]? = store[id]? ∧ ∀ b, M.G id = some b → (∃ cs, store[id]? = some (.cells cs)) → ∀ o, cellAt M'.w b o = cellAt M.w b o)
    (h : TRep M vars store vv kt av v) : TRep M' vars' store' vv' kt av v := by
  unfold TRep at *
  split at h
  · exact h.pres g (fun k b hb => hx b _ hb)
  · obtain ⟨ys, v0, ho, hw⟩ := h
    have r := hv _ rfl
    refine ⟨ys, v0, ho.move r.1 r.2.1 (fun b hb hne => ?_), hw⟩
    rcases ho with ⟨h0, _, _⟩ | ⟨k, cs, b', h0, h1, _⟩
    · exact absurd h0 hne
    · exact r.2.2 b hb ⟨cs, h1⟩
  · obtain ⟨ys, v0, ho, hw⟩ := h
    have r := hs _ rfl
    refine ⟨ys, v0, ho.move g.lay r.1 (fun b hb => ?_), hw⟩
    obtain ⟨cs, _, h1, _⟩ := ho
    exact r.2 b hb ⟨cs, h1⟩
  · obtain ⟨ys, b, p, C, ho, hw⟩ := h
    have r := hv _ rfl
    refine ⟨ys, b, p, C, ho.move r.1 r.2.1 (fun b hb hne => ?_), hw⟩
    rcases ho with ⟨h0, _, _⟩ | ⟨k, cs, b', h0, h1, _⟩
    · exact absurd h0 hne
    · exact r.2.2 b hb ⟨cs, h1⟩
  · obtain ⟨ys, b, p, C, ho, hw⟩ := h
    have r := hs _ rfl
    refine ⟨ys, b, p, C, ho.move g.lay r.1 (fun b hb => ?_), hw⟩
    obtain ⟨cs, _, h1, _⟩ := ho
    exact r.2 b hb ⟨cs, h1⟩
  · obtain ⟨b, cs, h1, h2, h3⟩ := h
    have r := hv _ rfl
    exact ⟨b, cs, r.1.trans h1, r.2.1.trans h2, h3⟩
  · exact h.pres g (fun b hb => hx b _ hb)

abbrev vvOf (slots : List Nat) (n : Nat) (a : Act) : Nat → Value := fun i => a.tmps.getD (slots.getD i n) undef

theorem StoreRep.pres {M M' : Mem} {store : List Obj} (g : Grow M.S M.G M.w M'.S M'.G M'.w) (hG : ∀ id b, M'.G id = some b → M.G id = some b)
    (hp : ∀ b k, M.own b = some k → k.isG = true → Pres M M' b) (h : StoreRep M store) : StoreRep M' store :=
  ⟨fun id o ho => (h.1 id o ho).pres g (fun b k hb hk => hp b k hb (by cases k <;> simp_all [Key.ofObj, Key.isG])), fun id b hb => h.2 id b (hG id b hb)⟩

theorem FR.boxCell {M : Mem} {slots : List Nat} {n : Nat} {st : St} {a : Act} (h : FR M slots n st a) {M' : Mem} {j : Nat} {cs : List AV}
    (hj : st.vars[j]? = some (.lbox cs)) (hp : ∀ b, M.own b = some (.lb j) → Pres M M' b) {b : Nat} (hb : vvOf slots n a j = .pointer (some ⟨b, 0, none⟩)) (o : Nat) :
    cellAt M'.w b o = cellAt M.w b o := by
  have hl : j < slots.length := by
    have := (List.getElem?_eq_some_iff.1 hj).1; rw [h.len] at this; exact this
  have hr := h.vars j slots[j] _ (List.getElem?_eq_getElem hl) hj
  simp only [VRep, LBox] at hr
  obtain ⟨b', hv, ho, _, _⟩ := hr
  have : b = b' := by
    simp only [vvOf, List.getD_eq_getElem?_getD, List.getElem?_eq_getElem hl, Option.getD_some] at hb
    rw [hb] at hv
    simpa using hv
  subst this
  exact cellAt_of_heap (hp b ho).heap o

theorem FR.objCell {M : Mem} {slots : List Nat} {n : Nat} {st : St} {a : Act} (h : FR M slots n st a) {M' : Mem} {id : Nat} {cs : List AV}
    (hj : st.store[id]? = some (.cells cs)) (hp : ∀ b, M.own b = some (.gb id) → Pres M M' b) {b : Nat} (hb : M.G id = some b) (o : Nat) :
    cellAt M'.w b o = cellAt M.w b o := by
  have hr := h.store.1 id _ hj
  simp only [ObjRep] at hr
  obtain ⟨b', hG, ho, _, _⟩ := hr
  have : b = b' := by rw [hb] at hG; simpa using hG
  subst this
  exact cellAt_of_heap (hp b ho).heap o

/-- Nothing that a slot reads has changed. -/
theorem FR.evolve {M M' : Mem} {slots : List Nat} {n : Nat} {st : St} {a : Act} (h : FR M slots n st a) (g : Grow M.S M.G M.w M'.S M'.G M'.w) (wf : M'.Wf)
    (hG : ∀ id b, M'.G id = some b → M.G id = some b)
    (hp : ∀ b k, M.own b = some k → (∀ j, k ≠ .r j) → Pres M M' b) : FR M' slots n st a where
  wf := wf
  size := h.size
  defers := h.defers
  len := h.len
  nodup := h.nodup
  lt := h.lt
  vars i x av hx hv := (h.vars i x av hx hv).pres g (fun b k hb hk => hp b k hb (by cases k <;> simp_all [Key.ofVar]))
  tmps x hx := (h.tmps x hx).move g (fun b k hb => hp b _ hb (by simp))
    (fun j _ => ⟨rfl, rfl, fun b hb ⟨cs, hc⟩ o => h.boxCell hc (fun b hb => hp b _ hb (by simp)) hb o⟩)
    (fun id _ => ⟨rfl, fun b hb ⟨cs, hc⟩ o => h.objCell hc (fun b hb => hp b _ hb (by simp)) hb o⟩)
  store := h.store.pres g hG (fun b k hb hk => hp b k hb (by cases k <;> simp_all [Key.isG]))

theorem look_unref (i x : Nat) : ∀ l : List (Nat × AV), look x (unref i l) = unr i (look x l)
  | [] => rfl
  | (y, v) :: r => by
    simp only [unref, look]
    split
    · rfl
    · exact look_unref i x r

theorem getD_put (a : Act) (x : Nat) (v d : Value) (h : x < a.tmps.size) : (a.put (some x) v).tmps.getD x d = v := by
  simp [Act.put, Array.getD, h]

theorem getD_put_ne (a : Act) {x y : Nat} (v d : Value) (h : x ≠ y) : (a.put (some x) v).tmps.getD y d = a.tmps.getD y d := by
  simp only [Act.put, Array.getD_eq_getD_getElem?, Array.getElem?_setIfInBounds_ne h]

theorem size_put (a : Act) (x : Option Nat) (v : Value) : (a.put x v).tmps.size = a.tmps.size := by
  cases x <;> simp [Act.put]

theorem defers_put (a : Act) (x : Option Nat) (v : Value) : (a.put x v).defers = a.defers := by
  cases x <;> rfl

theorem slots_inj {slots : List Nat} (hn : slots.Nodup) {i j x : Nat} (hi : slots[i]? = some x) (hj : slots[j]? = some x) : i = j := by
  obtain ⟨h1, h2⟩ := List.getElem?_eq_some_iff.1 hi
  obtain ⟨h3, h4⟩ := List.getElem?_eq_some_iff.1 hj
  exact (List.getElem_inj hn).1 (h2.trans h4.symm)

/-- What is read of variable i's array is plain, once it is not written any more. -/
theorem unr_rep {M : Mem} {vars : List AV} {store : List Obj} {vv : Nat → Value} {i : Nat} {kt : Nat → Key} {av : AV} {v : Value}
    (hO : ∀ off m s ys v0, Owner M vars vv i off m s ys v0 → ∃ key, OwnArr M key m s ys v0) (hr : refV av i) (h : TRep M vars store vv kt av v) (kt' : Nat → Key)
    (vars' : List AV) (store' : List Obj) (vv' : Nat → Value) : TRep M vars' store' vv' kt' (unr i av) v := by
  unfold TRep at h
  split at h
  · simp [refV] at hr
  · rename_i u j off vo m s xs
    obtain ⟨ys, v0, ho, hw⟩ := h
    have : j = i := hr
    subst this
    simp only [unr, if_true]
    cases m with
    | true => simp [TRep, Has, RepV]
    | false =>
      obtain ⟨key, hA⟩ := hO _ _ _ _ _ ho
      simp only [Bool.false_eq_true, if_false]
      show RepV M.S M.G M.w (.sl .none s xs) v
      simp only [RepV, Rep]
      rcases hw with ⟨h0, h1, h2⟩ | ⟨h1, h2⟩ | ⟨b, o, C, cap, h1, h2, h3, h4, h5, _⟩
      · subst h1 h2
        rcases hA with ⟨e1, e2⟩ | ⟨hne, b, o, cap, hv, hb, hc, hE, hR, ht, hf⟩
        · rcases e2 with e2 | ⟨b, o, e2⟩
          · exact .inl ⟨by rw [e2], e1⟩
          · subst e1; exact .inr ⟨b, o, 0, by rw [e2]; rfl, by simp, by simp, by simp [Els]⟩
        · exact .inr ⟨b, o, cap, by rw [hv], hc, (hf rfl).1, hE⟩
      · subst h1
        rcases h2 with h2 | ⟨b, o, cap, h2, _⟩
        · exact .inl ⟨by rw [h2], rfl⟩
        · exact .inr ⟨b, o, cap, by rw [h2]; rfl, by simp, by simp, by simp [Els]⟩
      · rcases hA with ⟨e1, e2⟩ | ⟨hne, b', o', cap', hv, hb, hc, hE, hR, ht, hf⟩
        · subst e1
          have hx : xs = [] := by rw [h3]; simp
          subst hx
          exact .inr ⟨b, o + vo * s, cap, by rw [h4], h5, by simp, by simp [Els]⟩
        · rw [hv] at h1
          simp only [Value.slice.injEq, Option.some.injEq, Addr.mk.injEq, and_true, true_and] at h1
          obtain ⟨⟨rfl, rfl⟩, rfl⟩ := h1
          refine .inr ⟨b', o' + vo * s, cap, by rw [h4], h5, fun j hj => ?_, ?_⟩
          · have := (hf rfl).1 (vo * s + j) (by
              have h6 : (vo + xs.length) * s ≤ ys.length * s := Nat.mul_le_mul_right s h2
              rw [Nat.add_mul] at h6; omega)
            rwa [← Nat.add_assoc] at this
          · rw [h3]
            exact Els.sub hE vo xs.length
  · simp [refV] at hr
  · rename_i u j off vo m s xs k o
    obtain ⟨ys, b, p, C, ho, h2, h3, h4, h5⟩ := h
    have : j = i := hr
    subst this
    simp only [unr, if_true]
    cases m with
    | true => simp [TRep, Has, RepV]
    | false =>
      obtain ⟨key, hA⟩ := hO _ _ _ _ _ ho
      simp only [Bool.false_eq_true, if_false]
      show RepV M.S M.G M.w (.eptr .none s xs k o) v
      simp only [RepV, Rep]
      rcases hA with ⟨e1, e2⟩ | ⟨hne, b', o', cap', hv, hb, hc, hE, hR, ht, hf⟩
      · subst e1
        have hx : xs = [] := by rw [h3]; simp
        subst hx
        simp at h4
      · simp only [Value.slice.injEq, Option.some.injEq, Addr.mk.injEq, and_true, true_and] at hv
        obtain ⟨⟨rfl, rfl⟩, rfl⟩ := hv
        refine ⟨b, p + vo * s, by rw [h5]; simp [Nat.add_mul, Nat.add_assoc], h4, fun j hj => ?_, ?_⟩
        · have := (hf rfl).1 (vo * s + j) (by
            have h6 : (vo + xs.length) * s ≤ ys.length * s := Nat.mul_le_mul_right s h2
            rw [Nat.add_mul] at h6; omega)
          rwa [← Nat.add_assoc] at this
        · rw [h3]
          exact Els.sub hE vo xs.length
  · simp [refV] at hr
  · rename_i u j off
    have : j = i := hr
    subst this
    simp [unr, TRep, Has, RepV]
  · exfalso
    rename_i h1 h2 h3 h4 h5 h6
    unfold refV at hr
    split at hr
    · exact h2 _ _ _ _ _ _ rfl
    · exact h4 _ _ _ _ _ _ _ _ rfl
    · exact h6 _ _ rfl
    · exact hr

theorem refV_unr {i j : Nat} {av : AV} (h : refV (unr i av) j) : refV av j ∧ j ≠ i := by
  unfold unr at h
  split at h
  · split at h
    · split at h <;> simp [refV] at h
    · rename_i hne; simp only [refV] at h ⊢; exact ⟨h, by omega⟩
  · split at h
    · split at h <;> simp [refV] at h
    · rename_i hne; simp only [refV] at h ⊢; exact ⟨h, by omega⟩
  · split at h
    · simp [refV] at h
    · rename_i hne; simp only [refV] at h ⊢; exact ⟨h, by omega⟩
  · rename_i h1 h2 h3
    unfold refV at h
    split at h
    · exact absurd rfl (h1 _ _ _ _ _ _)
    · exact absurd rfl (h2 _ _ _ _ _ _ _ _)
    · exact absurd rfl (h3 _ _)
    · exact h.elim

theorem unr_same {i : Nat} {av : AV} (h : ¬ refV av i) : unr i av = av := by
  unfold unr
  split
  · rename_i hx; simp only [refV] at h; rw [if_neg h]
  · simp only [refV] at h; rw [if_neg h]
  · simp only [refV] at h; rw [if_neg h]
  · rfl

theorem FR.owner_arr {M : Mem} {slots : List Nat} {n : Nat} {st : St} {a : Act} (h : FR M slots n st a) {i off : Nat} {m : Bool} {s : Nat} {ys : List AV} {v0 : Value}
    (ho : Owner M st.vars (vvOf slots n a) i off m s ys v0) : OwnArr M (.v i off) m s ys v0 := by
  rcases ho with ⟨h0, h1, h2⟩ | ⟨k, cs, b, h0, h1, h2, h3, h4⟩
  · have hl : i < slots.length := by
      have := (List.getElem?_eq_some_iff.1 h1).1; rw [h.len] at this; exact this
    have hr := h.vars i slots[i] _ (List.getElem?_eq_getElem hl) h1
    simp only [VRep, Has] at hr
    subst h0 h2
    simpa [vvOf, List.getD_eq_getElem?_getD, List.getElem?_eq_getElem hl] using hr
  · have hl : i < slots.length := by
      have := (List.getElem?_eq_some_iff.1 h1).1; rw [h.len] at this; exact this
    have hr := h.vars i slots[i] _ (List.getElem?_eq_getElem hl) h1
    simp only [VRep, LBox] at hr
    obtain ⟨b', hv, hb, hS, c, e, fr, hc, hlen, hf, hx⟩ := hr
    have : b = b' := by
      simp only [vvOf, List.getD_eq_getElem?_getD, List.getElem?_eq_getElem hl, Option.getD_some] at h3
      rw [h3] at hv
      simpa using hv
    subst this h0
    obtain ⟨u, hu, h5, h6⟩ := hx k _ h2
    have : u = v0 := by
      simp only [cellAt, World.cell?, hc] at h4
      simp at h4
      rw [hu] at h4
      simpa using h4
    subst this
    exact h6

/-- Variable i is set: what it owned may be disturbed, nothing else. -/
theorem FR.setVar {M M' : Mem} {slots : List Nat} {n : Nat} {st : St} {a a' : Act} (h : FR M slots n st a) (g : Grow M.S M.G M.w M'.S M'.G M'.w) (wf : M'.Wf)
    (hG : ∀ id b, M'.G id = some b → M.G id = some b) {i x : Nat} (hi : slots[i]? = some x)
    (hp : ∀ b k, M.own b = some k → ¬ k.ofVar i → (∀ j, k ≠ .r j) → Pres M M' b) {av : AV} {v : Value} (hv : VRep M' i av v)
    (hs : a'.tmps.size = n) (hd : a'.defers = []) (hx : a'.tmps.getD x undef = v) (hy : ∀ y, y ≠ x → a'.tmps.getD y undef = a.tmps.getD y undef) :
    FR M' slots n (setV st i av) a' := by
  have hil : i < slots.length := (List.getElem?_eq_some_iff.1 hi).1
  have hxn : x < n := h.lt x (List.mem_of_getElem? hi)
  have hvv : ∀ j, j ≠ i → vvOf slots n a' j = vvOf slots n a j := by
    intro j hj
    simp only [vvOf]
    apply hy
    intro e
    rcases Nat.lt_or_ge j slots.length with hl | hl
    · rw [List.getD_eq_getElem?_getD, List.getElem?_eq_getElem hl, Option.getD_some] at e
      exact hj (slots_inj h.nodup (List.getElem?_eq_getElem hl ▸ congrArg some e) hi)
    · rw [List.getD_eq_getElem?_getD, List.getElem?_eq_none hl] at e
      simp at e; omega
  refine { wf := wf, size := hs, defers := hd, len := by simp [setV, h.len], nodup := h.nodup, lt := h.lt, vars := ?_, tmps := ?_, store := ?_ }
  · intro j y av' hj hav
    by_cases e : j = i
    · subst e
      have : y = x := by rw [hi] at hj; simpa using hj.symm
      subst this
      have hlv : j < st.vars.length := by rw [h.len]; exact hil
      have : av' = av := by simpa [setV, List.getElem?_set, hlv] using hav.symm
      subst this
      rw [hx]; exact hv
    · have hav' : st.vars[j]? = some av' := by simpa [setV, List.getElem?_set, Ne.symm e] using hav
      have hyx : y ≠ x := fun e' => e (slots_inj h.nodup (e' ▸ hj) hi)
      rw [hy y hyx]
      refine (h.vars j y av' hj hav').pres g (fun b k hb hk => hp b k hb ?_ ?_)
      all_goals cases k <;> simp_all [Key.ofVar]
  · intro y hyn
    have hyx : y ≠ x := fun e => hyn (e ▸ List.mem_of_getElem? hi)
    simp only [setV, look_unref]
    rw [hy y hyx]
    have ht := h.tmps y hyn
    have hu : TRep M st.vars st.store (vvOf slots n a) (Key.t y) (unr i (look y st.tmps)) (a.tmps.getD y undef) := by
      by_cases hr : refV (look y st.tmps) i
      · exact unr_rep (fun off m s ys v0 ho => ⟨_, h.owner_arr ho⟩) hr ht _ _ _ _
      · rw [unr_same hr]; exact ht
    refine hu.move g (fun b k hb => hp b _ hb (by simp [Key.ofVar]) (by simp)) (fun j hj => ?_) (fun id hid => ?_)
    · have := (refV_unr hj).2
      refine ⟨by simp [Ne.symm this], hvv j this, fun b hb ⟨cs, hc⟩ o => h.boxCell hc (fun b hb => hp b _ hb ?_ (by simp)) hb o⟩
      simp only [Key.ofVar]; exact this
    · exact ⟨rfl, fun b hb ⟨cs, hc⟩ o => h.objCell hc (fun b hb => hp b _ hb (by simp [Key.ofVar]) (by simp)) hb o⟩
  · exact h.store.pres g hG (fun b k hb hk => hp b k hb (by cases k <;> simp_all [Key.ofVar, Key.isG]) (by cases k <;> simp_all [Key.isG]))

/-- A temporary is set, in the same memory or one that differs in what the temporary owned. -/
theorem FR.setTmp {M M' : Mem} {slots : List Nat} {n : Nat} {st : St} {a a' : Act} (h : FR M slots n st a) (g : Grow M.S M.G M.w M'.S M'.G M'.w) (wf : M'.Wf)
    (hG : ∀ id b, M'.G id = some b → M.G id = some b) {x : Nat} (hxs : x ∉ slots) (hxn : x < n ∨ a'.tmps = a.tmps)
    (hp : ∀ b k, M.own b = some k → ¬ k.ofTmp x → (∀ j, k ≠ .r j) → Pres M M' b) {av : AV} {v : Value} (hv : TRep M' st.vars st.store (vvOf slots n a) (Key.t x) av v)
    (hs : a'.tmps.size = n) (hd : a'.defers = []) (hx : a'.tmps.getD x undef = v) (hy : ∀ y, y ≠ x → a'.tmps.getD y undef = a.tmps.getD y undef) :
    FR M' slots n { st with tmps := (x, av) :: st.tmps } a' := by
  have hvv : vvOf slots n a' = vvOf slots n a := by
    funext j
    simp only [vvOf]
    rcases hxn with hxn | he
    · apply hy
      intro e
      rcases Nat.lt_or_ge j slots.length with hl | hl
      · rw [List.getD_eq_getElem?_getD, List.getElem?_eq_getElem hl, Option.getD_some] at e
        exact hxs (e ▸ List.getElem_mem hl)
      · rw [List.getD_eq_getElem?_getD, List.getElem?_eq_none hl] at e
        simp at e; omega
    · rw [he]
  refine { wf := wf, size := hs, defers := hd, len := h.len, nodup := h.nodup, lt := h.lt, vars := ?_, tmps := ?_, store := ?_ }
  · intro j y av' hj hav
    have hyx : y ≠ x := fun e => hxs (e ▸ List.mem_of_getElem? hj)
    rw [hy y hyx]
    exact (h.vars j y av' hj hav).pres g (fun b k hb hk => hp b k hb (by cases k <;> simp_all [Key.ofVar, Key.ofTmp]) (by cases k <;> simp_all [Key.ofVar]))
  · intro y hyn
    rw [show (fun i => a'.tmps.getD (slots.getD i n) undef) = vvOf slots n a from hvv]
    by_cases e : y = x
    · subst e
      simp only [look, if_true]
      rw [hx]; exact hv
    · simp only [look, if_neg e]
      rw [hy y e]
      refine (h.tmps y hyn).move g (fun b k hb => hp b _ hb (by simp [Key.ofTmp]; exact e) (by simp)) (fun j hj => ?_) (fun id hid => ?_)
      · exact ⟨rfl, rfl, fun b hb ⟨cs, hc⟩ o => h.boxCell hc (fun b hb => hp b _ hb (by simp [Key.ofTmp]) (by simp)) hb o⟩
      · exact ⟨rfl, fun b hb ⟨cs, hc⟩ o => h.objCell hc (fun b hb => hp b _ hb (by simp [Key.ofTmp]) (by simp)) hb o⟩
  · exact h.store.pres g hG (fun b k hb hk => hp b k hb (by cases k <;> simp_all [Key.ofTmp, Key.isG]) (by cases k <;> simp_all [Key.isG]))

end Go.VS
/- A new value is put where it goes. -/
set_option linter.unusedVariables false
namespace Go.VS

def NoR (M : Mem) : Prop := ∀ b k, M.own b ≠ some (.r k)

/-- What is new goes to a place. -/
def Mem.rekey (M : Mem) (f : Nat → Key) : Mem :=
  { M with own := fun b => match M.own b with | some (.r k) => some (f k) | o => o }

theorem Mem.rekey_r {M : Mem} {f : Nat → Key} {b k : Nat} (h : M.own b = some (.r k)) : (M.rekey f).own b = some (f k) := by
  simp [Mem.rekey, h]

theorem Mem.rekey_ne {M : Mem} {f : Nat → Key} {b : Nat} (h : ∀ k, M.own b ≠ some (.r k)) : (M.rekey f).own b = M.own b := by
  show (match M.own b with | some (.r k) => some (f k) | o => o) = M.own b
  split
  · rename_i k hk; exact absurd hk (h k)
  · rfl

theorem Mem.rekey_none {M : Mem} {f : Nat → Key} {b : Nat} (h : M.own b = none) : (M.rekey f).own b = none := by
  simp [Mem.rekey, h]

theorem Mem.rekey_noR {M : Mem} {f : Nat → Key} (hf : ∀ k j, f k ≠ .r j) : NoR (M.rekey f) := by
  intro b k
  simp only [Mem.rekey]
  split
  · simpa using hf _ _
  · rename_i h; exact fun e => h k e

theorem Mem.Wf.rekey {M : Mem} (h : M.Wf) (f : Nat → Key) : (M.rekey f).Wf where
  sdom := h.sdom
  odom b k hk := by
    simp only [Mem.rekey] at hk
    split at hk
    · rename_i j hj; exact h.odom b _ hj
    · exact h.odom b k hk
  gown id b hb := by
    rw [Mem.rekey_ne]
    · exact h.gown id b hb
    · intro k hk
      rcases h.gown id b hb with e | e <;> simp [e] at hk

theorem Evo.ghost {M M' : Mem} (hw : M'.w = M.w) (hS : ∀ b j, M.S b j → M'.S b j) (hG : ∀ id b, M.G id = some b → M'.G id = some b)
    (acq : ∀ b, M.own b = none → M'.own b = none) (snew : ∀ b j, M'.S b j → M.S b j ∨ M.own b ≠ none) : Evo M M' where
  grow := ⟨hS, hG, fun b j _ => by rw [hw]⟩
  size := by rw [hw]; exact Nat.le_refl _
  os := by rw [hw]
  tape := by rw [hw]
  output := by rw [hw]
  same b _ _ := by rw [hw]
  acq b _ h := acq b h
  snew b j h := (snew b j h).elim .inl fun h => .inr (.inr h)

theorem Mem.rekey_evo (M : Mem) (f : Nat → Key) : Evo M (M.rekey f) :=
  .ghost rfl (fun _ _ h => h) (fun _ _ h => h) (fun _ h => Mem.rekey_none h) (fun _ _ h => .inl h)

theorem Mem.rekey_pres {M : Mem} {f : Nat → Key} {b : Nat} {k : Key} (hb : M.own b = some k) (hk : ∀ j, k ≠ .r j) : Pres M (M.rekey f) b :=
  ⟨Mem.rekey_ne (by rw [hb]; intro j e; exact hk j (Option.some.inj e)), rfl, fun _ h => h⟩

theorem OwnArr.rekey {M : Mem} {f : Nat → Key} {k : Nat} {m : Bool} {s : Nat} {xs : List AV} {v : Value} (h : OwnArr M (.r k) m s xs v) : OwnArr (M.rekey f) (f k) m s xs v := by
  rcases h with h | ⟨hne, b, o, cap, hv, ho, h⟩
  · exact .inl h
  · exact .inr ⟨hne, b, o, cap, hv, Mem.rekey_r ho, h⟩

theorem Has.rekey {M : Mem} {f : Nat → Key} {k : Nat} {x : AV} {v : Value} (h : Has M (.r k) x v) : Has (M.rekey f) (f k) x v := by
  unfold Has at *
  split at h
  · exact OwnArr.rekey h
  · exact h

theorem TupRep.rekey {M : Mem} {f : Nat → Key} {vs : List AV} {v : Value} (h : TupRep M (fun k => .r (k + 1)) vs v) : TupRep (M.rekey f) (fun k => f (k + 1)) vs v := by
  obtain ⟨a, hv, hl, hx⟩ := h
  refine ⟨a, hv, hl, fun k x hk => ?_⟩
  obtain ⟨u, hu, hh⟩ := hx k x hk
  exact ⟨u, hu, hh.rekey⟩

theorem TRep.rekey {M : Mem} {vars : List AV} {store : List Obj} {vv : Nat → Value} {f : Nat → Key} {av : AV} {v : Value}
    (h : TRep M vars store vv Key.r av v) : TRep (M.rekey f) vars store vv f av v := by
  unfold TRep at *
  split at h
  · exact h.rekey
  · exact h
  · exact h
  · exact h
  · exact h
  · exact h
  · exact h.rekey

/-- More cells stay from now on. -/
def Mem.stay (M : Mem) (T : Cells) : Mem := { M with S := fun b j => M.S b j ∨ T b j }

theorem Mem.stay_evo {M : Mem} {T : Cells} (h : ∀ b j, T b j → M.own b ≠ none) : Evo M (M.stay T) :=
  .ghost rfl (fun _ _ h => .inl h) (fun _ _ h => h) (fun _ h => h) (fun b j hs => hs.elim .inl fun ht => .inr (h b j ht))

theorem Mem.Wf.stay {M : Mem} (h : M.Wf) {T : Cells} (ht : ∀ b j, T b j → (cellAt M.w b j).isSome = true) : (M.stay T).Wf :=
  ⟨fun b j hs => hs.elim (h.sdom b j) (ht b j), h.odom, h.gown⟩

theorem Room.cell {w : World} {b n j : Nat} (h : Room w b n) (hj : j < n) : (cellAt w b j).isSome = true := by
  obtain ⟨c, e, fr, hc, hn, _⟩ := h
  have : j < c.size := by omega
  simp [cellAt, World.cell?, hc, this]

/-- An array that only its place sees: from now on its elements stay. -/
theorem OwnArr.settle {M : Mem} {key : Key} {s : Nat} {xs : List AV} {v : Value} (wf : M.Wf) (h : OwnArr M key true s xs v) :
    ∃ M', M'.w = M.w ∧ M'.own = M.own ∧ M'.G = M.G ∧ Evo M M' ∧ M'.Wf ∧ OwnArr M' key false s xs v ∧ ∀ b, M.own b ≠ some key → ∀ j, M'.S b j → M.S b j := by
  rcases h with h | ⟨hne, b, o, cap, hv, ho, hc, hE, hR, ht, hf⟩
  · exact ⟨M, rfl, rfl, rfl, .refl M, wf, .inl h, fun _ _ _ h => h⟩
  · have hT : ∀ b' j, (b' = b ∧ o ≤ j ∧ j < o + xs.length * s) → M.own b' ≠ none := by rintro b' j ⟨rfl, _⟩; simp [ho]
    refine ⟨M.stay fun b' j => b' = b ∧ o ≤ j ∧ j < o + xs.length * s, rfl, rfl, rfl, Mem.stay_evo hT, wf.stay ?_, .inr ?_, ?_⟩
    · rintro b' j ⟨rfl, h1, h2⟩
      exact hR.cell (by have := Nat.mul_le_mul_right s hc; omega)
    · refine ⟨hne, b, o, cap, hv, ho, hc, Els.mono (Mem.stay_evo hT).grow xs o (fun _ _ => rfl) hE, hR, fun h => by simp at h, fun _ => ⟨fun j hj => .inr ⟨rfl, by omega, by omega⟩, fun j hj => ?_⟩⟩
      rintro (hs | ⟨_, _, h2⟩)
      · exact ht rfl j hs
      · omega
    · intro b' hb' j hs
      rcases hs with hs | ⟨rfl, _⟩
      · exact hs
      · exact absurd ho hb'

def chkDst (slots : List Nat) (n x : Nat) : Dst → Bool
  | .v i _ => slots[i]? == some x
  | .t y => y == x && !slots.contains x && decide (x < n)
  | .n => false

/-- A view that is no writer's is plain. -/
theorem TRep.of_plain {M : Mem} {slots : List Nat} {n : Nat} {st : St} {a : Act} (h : FR M slots n st a) {kt : Nat → Key} {i off vo s : Nat} {xs : List AV} {v : Value}
    (ht : TRep M st.vars st.store (vvOf slots n a) kt (.sl (.of i off vo false) s xs) v) : RepV M.S M.G M.w (.sl .none s xs) v := by
  have := unr_rep (i := i) (fun off m s ys v0 ho => ⟨_, h.owner_arr ho⟩) (by simp [refV]) ht kt st.vars st.store (vvOf slots n a)
  simpa [unr, TRep, Has] using this

theorem FR.gowner_arr {M : Mem} {slots : List Nat} {n : Nat} {st : St} {a : Act} (h : FR M slots n st a) {id off : Nat} {m : Bool} {s : Nat} {ys : List AV} {v0 : Value}
    (ho : GOwner M st.store id off m s ys v0) : OwnArr M (.g id off) m s ys v0 := by
  obtain ⟨cs, b, h1, h2, h3, h4⟩ := ho
  have hr := h.store.1 id _ h1
  simp only [ObjRep] at hr
  obtain ⟨b', hG, hb, hS, c, e, fr, hc, hlen, hf, hx⟩ := hr
  have : b = b' := by rw [h3] at hG; simpa using hG
  subst this
  obtain ⟨u, hu, h5, h6⟩ := hx off _ h2
  have : u = v0 := by
    simp only [cellAt, World.cell?, hc] at h4
    simp at h4
    rw [hu] at h4
    simpa using h4
  subst this
  exact h6

theorem view_plain {M : Mem} {key : Key} {s : Nat} {ys xs : List AV} {v0 v : Value} {vo : Nat} (hA : OwnArr M key false s ys v0) (hw : View s ys v0 vo xs v) :
    RepV M.S M.G M.w (.sl .none s xs) v := by
  simp only [RepV, Rep]
  rcases hw with ⟨h0, h1, h2⟩ | ⟨h1, h2⟩ | ⟨b, o, C, cap, h1, h2, h3, h4, h5, _⟩
  · subst h1 h2
    rcases hA with ⟨e1, e2⟩ | ⟨hne, b, o, cap, hv, hb, hc, hE, hR, ht, hf⟩
    · rcases e2 with e2 | ⟨b, o, e2⟩
      · exact .inl ⟨by rw [e2], e1⟩
      · subst e1; exact .inr ⟨b, o, 0, by rw [e2]; rfl, by simp, by simp, by simp [Els]⟩
    · exact .inr ⟨b, o, cap, by rw [hv], hc, (hf rfl).1, hE⟩
  · subst h1
    rcases h2 with h2 | ⟨b, o, cap, h2, _⟩
    · exact .inl ⟨by rw [h2], rfl⟩
    · exact .inr ⟨b, o, cap, by rw [h2]; rfl, by simp, by simp, by simp [Els]⟩
  · rcases hA with ⟨e1, e2⟩ | ⟨hne, b', o', cap', hv, hb, hc, hE, hR, ht, hf⟩
    · subst e1
      have hx : xs = [] := by rw [h3]; simp
      subst hx
      exact .inr ⟨b, o + vo * s, cap, by rw [h4], h5, by simp, by simp [Els]⟩
    · rw [hv] at h1
      simp only [Value.slice.injEq, Option.some.injEq, Addr.mk.injEq, and_true, true_and] at h1
      obtain ⟨⟨rfl, rfl⟩, rfl⟩ := h1
      refine .inr ⟨b', o' + vo * s, cap, by rw [h4], h5, fun j hj => ?_, ?_⟩
      · have := (hf rfl).1 (vo * s + j) (by
          have h6 : (vo + xs.length) * s ≤ ys.length * s := Nat.mul_le_mul_right s h2
          rw [Nat.add_mul] at h6; omega)
        rwa [← Nat.add_assoc] at this
      · rw [h3]
        exact Els.sub hE vo xs.length

theorem plain_trep {M : Mem} {vars : List AV} {store : List Obj} {vv : Nat → Value} {kt : Nat → Key} {av : AV} {v : Value} (hp : plain av = true)
    (h : TRep M vars store vv kt av v) : RepV M.S M.G M.w av v := by
  unfold plain at hp
  unfold TRep Has at h
  (repeat' split at h) <;> first
    | exact h
    | simp at hp

theorem rep_trep {M : Mem} {vars : List AV} {store : List Obj} {vv : Nat → Value} {kt : Nat → Key} {av : AV} {v : Value} (hp : plain av = true)
    (h : RepV M.S M.G M.w av v) : TRep M vars store vv kt av v := by
  unfold plain at hp
  unfold TRep Has
  (repeat' split) <;> first
    | exact h
    | simp at hp

theorem plain_vrep {M : Mem} {i : Nat} {av : AV} {v : Value} (hp : plain av = true) (h : RepV M.S M.G M.w av v) : VRep M i av v := by
  unfold plain at hp
  unfold VRep Has
  (repeat' split) <;> first
    | exact h
    | simp at hp

theorem full_own {M : Mem} {key : Key} {m : Bool} {s : Nat} {v : Value} (h : RepV M.S M.G M.w (.sl .full s []) v) : OwnArr M key m s [] v := by
  simp only [RepV, Rep] at h
  rcases h with ⟨h, _⟩ | ⟨b, o, h, _⟩
  · exact .inl ⟨rfl, .inl (by simpa using h)⟩
  · exact .inl ⟨rfl, .inr ⟨b, o, by simpa using h⟩⟩

/-- A variable is set to a value that is there already, in the memory as it is but for what is new. -/
theorem FR.setNew {M M' : Mem} {slots : List Nat} {n : Nat} {st : St} {a : Act} (h : FR M slots n st a) (e : Evo M M') (wf : M'.Wf) (hG : M'.G = M.G)
    {i x : Nat} (hi : slots[i]? = some x) (hw : M'.w = M.w)
    (hp : ∀ b k, M.own b = some k → (∀ j, k ≠ .r j) → M'.own b = M.own b ∧ ∀ j, M'.S b j → M.S b j) {av : AV} {v : Value} (hv : VRep M' i av v) :
    FR M' slots n (setV st i av) (a.put (some x) v) :=
  h.setVar e.grow wf (fun id b hb => by rw [← hG]; exact hb) hi (fun b k hb _ hk => ⟨(hp b k hb hk).1, by rw [hw], (hp b k hb hk).2⟩) hv
    (by rw [size_put, h.size]) (by rw [defers_put, h.defers]) (getD_put _ _ _ _ (by rw [h.size]; exact h.lt x (List.mem_of_getElem? hi)))
    (fun y hy => getD_put_ne _ _ _ (Ne.symm hy))

theorem put_sound {M : Mem} {slots : List Nat} {n : Nat} {st st' : St} {a : Act} (h : FR M slots n st a) {x : Nat} {d : Dst} (hd : chkDst slots n x d = true)
    {av : AV} {v : Value} (hv : TRep M st.vars st.store (vvOf slots n a) Key.r av v) (hp : put st d av = some st') :
    ∃ M', M'.w = M.w ∧ Evo M M' ∧ NoR M' ∧ FR M' slots n st' (a.put (some x) v) := by
  cases d with
  | n => simp [chkDst] at hd
  | t y =>
    simp only [chkDst, Bool.and_eq_true, beq_iff_eq, decide_eq_true_eq, Bool.not_eq_true', List.contains_eq_mem, decide_eq_false_iff_not] at hd
    obtain ⟨⟨rfl, hns⟩, hlt⟩ := hd
    simp only [put, Option.some.injEq] at hp
    subst hp
    refine ⟨M.rekey (Key.t y), rfl, M.rekey_evo _, Mem.rekey_noR (by simp), ?_⟩
    exact h.setTmp (M.rekey_evo _).grow (h.wf.rekey _) (fun _ _ h => h) hns (.inl hlt) (fun b k hb _ hk => Mem.rekey_pres hb hk) hv.rekey
      (by rw [size_put, h.size]) (by rw [defers_put, h.defers]) (getD_put _ _ _ _ (by rw [h.size]; exact hlt)) (fun z hz => getD_put_ne _ _ _ (Ne.symm hz))
  | v i m =>
    simp only [chkDst, beq_iff_eq] at hd
    have hK : ∀ b k, M.own b = some k → (∀ j, k ≠ .r j) → (M.rekey fun k => .v i k).own b = M.own b ∧ ∀ j, (M.rekey fun k => .v i k).S b j → M.S b j :=
      fun b k hb hk => ⟨(Mem.rekey_pres hb hk).own, fun _ h => h⟩
    have plainCase : ∀ {av' : AV} {st'' : St}, RepV M.S M.G M.w av' v → plain av' = true → setV st i av' = st'' →
        ∃ M', M'.w = M.w ∧ Evo M M' ∧ NoR M' ∧ FR M' slots n st'' (a.put (some x) v) := by
      intro av' st'' hr hpl he
      subst he
      exact ⟨M.rekey fun k => .v i k, rfl, M.rekey_evo _, Mem.rekey_noR (by simp), h.setNew (M.rekey_evo _) (h.wf.rekey _) rfl hd rfl hK (plain_vrep hpl hr)⟩
    unfold put at hp
    split at hp
    · rename_i heq; simp at heq
    · rename_i heq; simp at heq
    · rename_i j mj m' s xs heq
      simp only [Dst.v.injEq] at heq
      obtain ⟨rfl, rfl⟩ := heq
      simp only [Option.some.injEq] at hp
      subst hp
      have hA : OwnArr M (.r 0) m' s xs v := by simpa [TRep, Has] using hv
      have hA' := OwnArr.rekey (f := fun k => .v i k) hA
      cases m' with
      | false =>
        refine ⟨M.rekey fun k => .v i k, rfl, M.rekey_evo _, Mem.rekey_noR (by simp), h.setNew (M.rekey_evo _) (h.wf.rekey _) rfl hd rfl hK ?_⟩
        simpa [VRep, Has] using hA'
      | true =>
        cases m with
        | true =>
          refine ⟨M.rekey fun k => .v i k, rfl, M.rekey_evo _, Mem.rekey_noR (by simp), h.setNew (M.rekey_evo _) (h.wf.rekey _) rfl hd rfl hK ?_⟩
          simpa [VRep, Has] using hA'
        | false =>
          have hw1 : (M.rekey fun k => .r k).Wf := h.wf.rekey _
          obtain ⟨M2, e1, e2, e3, e4, e5, e6, e7⟩ := OwnArr.settle (h.wf) hA
          refine ⟨M2.rekey fun k => .v i k, e1, e4.trans (M2.rekey_evo _), Mem.rekey_noR (by simp), ?_⟩
          refine h.setNew (e4.trans (M2.rekey_evo _)) (e5.rekey _) e3 hd e1 (fun b k hb hk => ⟨?_, fun j hj => ?_⟩) ?_
          · rw [Mem.rekey_ne (by rw [e2, hb]; intro j e; exact hk j (Option.some.inj e)), e2]
          · exact e7 b (by rw [hb]; intro e; exact hk 0 (Option.some.inj e)) j hj
          · simpa [VRep, Has] using OwnArr.rekey (f := fun k => .v i k) e6
    · rename_i j mj oj off vo m' s xs heq
      simp only [Dst.v.injEq] at heq
      obtain ⟨rfl, rfl⟩ := heq
      cases m' with
      | true => simp at hp
      | false =>
        simp only [Bool.false_eq_true, if_false, Option.some.injEq] at hp
        exact plainCase (hv.of_plain h) rfl hp
    · rename_i j mj oj off vo m' s xs heq
      simp only [Dst.v.injEq] at heq
      obtain ⟨rfl, rfl⟩ := heq
      cases m' with
      | true => simp at hp
      | false =>
        simp only [Bool.false_eq_true, if_false, Option.some.injEq] at hp
        simp only [TRep] at hv
        obtain ⟨ys, v0, ho, hw⟩ := hv
        exact plainCase (view_plain (h.gowner_arr ho) hw) rfl hp
    · rename_i j mj s heq
      simp only [Dst.v.injEq] at heq
      obtain ⟨rfl, rfl⟩ := heq
      simp only [Option.some.injEq] at hp
      subst hp
      have hr : RepV M.S M.G M.w (.sl .full s []) v := by simpa [TRep, Has] using hv
      refine ⟨M.rekey fun k => .v i k, rfl, M.rekey_evo _, Mem.rekey_noR (by simp), h.setNew (M.rekey_evo _) (h.wf.rekey _) rfl hd rfl hK ?_⟩
      simp only [VRep, Has]
      exact full_own hr
    · rename_i j mj heq
      simp only [Dst.v.injEq] at heq
      obtain ⟨rfl, rfl⟩ := heq
      simp only [Option.some.injEq] at hp
      subst hp
      exact ⟨M.rekey fun k => .v i k, rfl, M.rekey_evo _, Mem.rekey_noR (by simp), h.setNew (M.rekey_evo _) (h.wf.rekey _) rfl hd rfl hK (by simp [VRep, Has, RepV])⟩
    · rename_i j mj heq h1 h2 h3 h4 h5
      simp only [Dst.v.injEq] at heq
      obtain ⟨rfl, rfl⟩ := heq
      split at hp
      · rename_i hpl
        simp only [Option.some.injEq] at hp
        exact plainCase (plain_trep hpl hv) hpl hp
      · simp at hp

end Go.VS
/- Operands are read; handed on. -/
set_option linter.unusedVariables false
namespace Go.VS

def constOk : Value → AV → Bool
  | .bool b, .bool c => b == c
  | .int k n, .int j m => k == j && n == m
  | .float k b, .flt j c => k == j && b == c
  | .complex k a b, .cpx j c d => k == j && a == c && b == d
  | .string s, .str l => s.data.toList == l
  | .pointer none, .nilptr => true
  | .slice none 0 0, .sl .full _ [] => true
  | .map none, .map none => true
  | .nilFunc, .nilfunc => true
  | .nilIface, .nilif => true
  | _, _ => false

theorem constOk_rep {S : Cells} {G : Lay} {w : World} {v : Value} {a : AV} (h : constOk v a = true) : RepV S G w a v ∧ plain a = true := by
  unfold constOk at h
  split at h <;> simp_all [RepV, Rep, plain]
  rename_i s l
  subst h
  rfl

def chkRef (slots : List Nat) : Operand → Ref → Bool
  | .tmp x, .v i => slots[i]? == some x
  | .tmp x, .t y => x == y && !slots.contains x
  | .const v, .c a => constOk v a
  | .func f, .c (.func g []) => f == g
  | _, _ => false

section
variable {M : Mem} {slots : List Nat} {n : Nat} {st : St} {a : Act}

theorem FR.var (h : FR M slots n st a) {i x : Nat} (hx : slots[i]? = some x) : ∃ av, st.vars[i]? = some av ∧ VRep M i av (a.tmps.getD x undef) ∧ vvOf slots n a i = a.tmps.getD x undef := by
  have hil : i < slots.length := (List.getElem?_eq_some_iff.1 hx).1
  have hiv : i < st.vars.length := by rw [h.len]; exact hil
  refine ⟨st.vars[i], List.getElem?_eq_getElem hiv, h.vars i x _ hx (List.getElem?_eq_getElem hiv), ?_⟩
  simp [vvOf, List.getD_eq_getElem?_getD, hx]

theorem view_trep (h : FR M slots n st a) {i x : Nat} (hx : slots[i]? = some x) {av : AV} (hav : st.vars[i]? = some av) (kt : Nat → Key) :
    TRep M st.vars st.store (vvOf slots n a) kt (view i av) (a.tmps.getD x undef) := by
  obtain ⟨av', h1, h2, h3⟩ := h.var hx
  rw [hav] at h1
  simp only [Option.some.injEq] at h1
  subst h1
  clear hx
  generalize a.tmps.getD x undef = v at *
  cases av with
  | sl o s xs =>
    cases o with
    | own m => exact ⟨xs, _, .inl ⟨rfl, hav, rfl⟩, .inl ⟨rfl, rfl, h3.symm⟩⟩
    | none => exact h2
    | full => exact h2
    | of i off vo m => exact absurd h2 (by simp [VRep, Has, RepV, Rep])
    | ofg i off vo m => exact absurd h2 (by simp [VRep, Has, RepV, Rep])
  | lbox cs =>
    simp only [VRep, LBox] at h2
    obtain ⟨b, hb, _⟩ := h2
    exact ⟨b, cs, hav, by rw [h3]; exact hb, hb⟩
  | eptr o s xs k off =>
    cases o with
    | none => exact h2
    | _ => exact absurd h2 (by simp [VRep, Has, RepV, Rep])
  | lptr i off => exact absurd h2 (by simp [VRep, Has, RepV, Rep])
  | tup vs => exact absurd h2 (by simp [VRep, Has, RepV, Rep])
  | _ => exact h2

theorem rd_trep (h : FR M slots n st a) {o : Operand} {r : Ref} (hc : chkRef slots o r = true) :
    ∃ kt, TRep M st.vars st.store (vvOf slots n a) kt (rd st r) (a.eval o) := by
  unfold chkRef at hc
  split at hc
  · rename_i x i
    simp only [beq_iff_eq] at hc
    obtain ⟨av, h1, _⟩ := h.var hc
    refine ⟨Key.r, ?_⟩
    simp only [rd, Act.eval, List.getD_eq_getElem?_getD, h1, Option.getD_some]
    exact view_trep h hc h1 _
  · rename_i x y
    simp only [Bool.and_eq_true, beq_iff_eq, Bool.not_eq_true', List.contains_eq_mem, decide_eq_false_iff_not] at hc
    obtain ⟨rfl, hns⟩ := hc
    exact ⟨Key.t x, h.tmps x hns⟩
  · have := constOk_rep (S := M.S) (G := M.G) (w := M.w) hc
    exact ⟨Key.r, rep_trep this.2 this.1⟩
  · rename_i f g
    simp only [beq_iff_eq] at hc
    subst hc
    refine ⟨Key.r, ?_⟩
    simp [rd, Act.eval, TRep, Has, RepV, Rep, Reps]
  · simp at hc

/-- What can be read of a slice, however it stands to its array. -/
def SlC (M : Mem) (s : Nat) (xs : List AV) (v : Value) : Prop :=
  (xs = [] ∧ v = .slice none 0 0) ∨ ∃ b o cap, v = .slice (some ⟨b, o, none⟩) xs.length cap ∧ xs.length ≤ cap ∧ Els M.S M.G M.w b s o xs

theorem OwnArr.content {key : Key} {m : Bool} {s : Nat} {xs : List AV} {v : Value} (h : OwnArr M key m s xs v) : SlC M s xs v := by
  rcases h with ⟨e1, e2⟩ | ⟨hne, b, o, cap, hv, hb, hc, hE, hR, ht, hf⟩
  · rcases e2 with e2 | ⟨b, o, e2⟩
    · exact .inl ⟨e1, e2⟩
    · subst e1; exact .inr ⟨b, o, 0, by rw [e2]; rfl, by simp, by simp [Els]⟩
  · exact .inr ⟨b, o, cap, hv, hc, hE⟩

theorem View.content {key : Key} {m : Bool} {s : Nat} {ys xs : List AV} {v0 v : Value} {vo : Nat} (hA : OwnArr M key m s ys v0) (hw : View s ys v0 vo xs v) : SlC M s xs v := by
  rcases hw with ⟨h0, h1, h2⟩ | ⟨h1, h2⟩ | ⟨b, o, C, cap, h1, h2, h3, h4, h5, _⟩
  · subst h1 h2; exact hA.content
  · subst h1
    rcases h2 with h2 | ⟨b, o, cap, h2, _⟩
    · exact .inl ⟨rfl, h2⟩
    · exact .inr ⟨b, o, cap, by rw [h2]; rfl, by simp, by simp [Els]⟩
  · rcases hA with ⟨e1, e2⟩ | ⟨hne, b', o', cap', hv, hb, hc, hE, hR, ht, hf⟩
    · subst e1
      have hx : xs = [] := by rw [h3]; simp
      subst hx
      exact .inr ⟨b, o + vo * s, cap, by rw [h4], h5, by simp [Els]⟩
    · rw [hv] at h1
      simp only [Value.slice.injEq, Option.some.injEq, Addr.mk.injEq, and_true, true_and] at h1
      obtain ⟨⟨rfl, rfl⟩, rfl⟩ := h1
      refine .inr ⟨b', o' + vo * s, cap, by rw [h4], h5, ?_⟩
      rw [h3]
      exact Els.sub hE vo xs.length

theorem rep_content {s : Nat} {xs : List AV} {v : Value} (h : RepV M.S M.G M.w (.sl .none s xs) v) : SlC M s xs v := by
  simp only [RepV, Rep, List.cons.injEq, and_true] at h
  rcases h with ⟨h1, h2⟩ | ⟨b, o, cap, h1, h2, h3, h4⟩
  · exact .inl ⟨h2, h1⟩
  · exact .inr ⟨b, o, cap, h1, h2, h4⟩

theorem rep_content_full {s : Nat} {xs : List AV} {v : Value} (h : RepV M.S M.G M.w (.sl .full s xs) v) : SlC M s xs v ∧ RepV M.S M.G M.w (.sl .none s xs) v := by
  simp only [RepV, Rep, List.cons.injEq, and_true] at h ⊢
  rcases h with ⟨h1, h2⟩ | ⟨b, o, h1, h3, h4⟩
  · exact ⟨.inl ⟨h2, h1⟩, .inl ⟨h1, h2⟩⟩
  · exact ⟨.inr ⟨b, o, _, h1, Nat.le_refl _, h4⟩, .inr ⟨b, o, _, h1, Nat.le_refl _, h3, h4⟩⟩

theorem sl_content (h : FR M slots n st a) {kt : Nat → Key} {ow : Own} {s : Nat} {xs : List AV} {v : Value}
    (ht : TRep M st.vars st.store (vvOf slots n a) kt (.sl ow s xs) v) : SlC M s xs v := by
  cases ow with
  | none => exact rep_content (by simpa [TRep, Has] using ht)
  | full => exact (rep_content_full (by simpa [TRep, Has] using ht)).1
  | own m => exact OwnArr.content (key := kt 0) (m := m) (by simpa [TRep, Has] using ht)
  | of i off vo m =>
    simp only [TRep] at ht
    obtain ⟨ys, v0, ho, hw⟩ := ht
    exact hw.content (h.owner_arr ho)
  | ofg id off vo m =>
    simp only [TRep] at ht
    obtain ⟨ys, v0, ho, hw⟩ := ht
    exact hw.content (h.gowner_arr ho)

/-- A temporary is told otherwise, in the same memory or one in which what it owned stands otherwise. -/
theorem FR.tell {M' : Mem} (h : FR M slots n st a) (g : Grow M.S M.G M.w M'.S M'.G M'.w) (wf : M'.Wf) (hG : ∀ id b, M'.G id = some b → M.G id = some b) {x : Nat}
    (hp : ∀ b k, M.own b = some k → ¬ k.ofTmp x → (∀ j, k ≠ .r j) → Pres M M' b) {av : AV}
    (hv : x ∉ slots → TRep M' st.vars st.store (vvOf slots n a) (Key.t x) av (a.tmps.getD x undef)) : FR M' slots n (kill st x av) a := by
  by_cases hxs : x ∈ slots
  · have hpx : ∀ b k, M.own b = some k → ¬ k.ofTmp x → (∀ j, k ≠ .r j) → Pres M M' b := hp
    refine { wf := wf, size := h.size, defers := h.defers, len := h.len, nodup := h.nodup, lt := h.lt, vars := ?_, tmps := ?_, store := ?_ }
    · intro j y av' hj hav
      exact (h.vars j y av' hj hav).pres g (fun b k hb hk => hp b k hb (by cases k <;> simp_all [Key.ofVar, Key.ofTmp]) (by cases k <;> simp_all [Key.ofVar]))
    · intro y hy
      have hyx : y ≠ x := fun e => hy (e ▸ hxs)
      simp only [kill, look, if_neg hyx]
      refine (h.tmps y hy).move g (fun b k hb => hp b _ hb (by simp [Key.ofTmp]; exact hyx) (by simp)) (fun j hj => ?_) (fun id hid => ?_)
      · exact ⟨rfl, rfl, fun b hb ⟨cs, hc⟩ o => h.boxCell hc (fun b hb => hp b _ hb (by simp [Key.ofTmp]) (by simp)) hb o⟩
      · exact ⟨rfl, fun b hb ⟨cs, hc⟩ o => h.objCell hc (fun b hb => hp b _ hb (by simp [Key.ofTmp]) (by simp)) hb o⟩
    · exact h.store.pres g hG (fun b k hb hk => hp b k hb (by cases k <;> simp_all [Key.ofTmp, Key.isG]) (by cases k <;> simp_all [Key.isG]))
  · exact h.setTmp g wf hG hxs (.inr rfl) hp (hv hxs) h.size h.defers rfl (fun y _ => rfl)

/-- What an operand's being handed on comes to. -/
structure Handed (M : Mem) (slots : List Nat) (n : Nat) (st' : St) (a : Act) (M' : Mem) : Prop where
  w : M'.w = M.w
  evo : Evo M M'
  noR : NoR M → NoR M'
  fr : FR M' slots n st' a
  own : ∀ b k, M.own b = some (.r k) → M'.own b = some (.r k)

theorem Handed.refl (h : FR M slots n st a) : Handed M slots n st a M := ⟨rfl, .refl M, id, h, fun _ _ h => h⟩

theorem own_none {key : Key} {s : Nat} {xs : List AV} {v : Value} (h : OwnArr M key false s xs v) : RepV M.S M.G M.w (.sl .none s xs) v :=
  view_plain h (.inl ⟨rfl, rfl, rfl⟩)

theorem pers_sound (h : FR M slots n st a) {o : Operand} {r : Ref} (hc : chkRef slots o r = true) {x : AV} {st' : St} (hp : pers st r = some (x, st')) :
    ∃ M', Handed M slots n st' a M' ∧ RepV M'.S M'.G M'.w x (a.eval o) ∧ plain x = true ∧ st'.store = st.store := by
  obtain ⟨kt, ht⟩ := rd_trep h hc
  have plainCase : ∀ {av : AV}, TRep M st.vars st.store (vvOf slots n a) kt av (a.eval o) → plain av = true → (av, st) = (x, st') →
      ∃ M', Handed M slots n st' a M' ∧ RepV M'.S M'.G M'.w x (a.eval o) ∧ plain x = true ∧ st'.store = st.store := by
    intro av hr hpl e
    simp only [Prod.mk.injEq] at e
    obtain ⟨rfl, rfl⟩ := e
    exact ⟨M, Handed.refl h, plain_trep hpl hr, hpl, rfl⟩
  have ofCase : ∀ {i off vo s : Nat} {xs : List AV} {m : Bool}, TRep M st.vars st.store (vvOf slots n a) kt (.sl (.of i off vo m) s xs) (a.eval o) →
      (if m = true then none else some (AV.sl .none s xs, st)) = some (x, st') →
      ∃ M', Handed M slots n st' a M' ∧ RepV M'.S M'.G M'.w x (a.eval o) ∧ plain x = true ∧ st'.store = st.store := by
    intro i off vo s xs m hr e
    cases m with
    | true => simp at e
    | false =>
      simp only [Bool.false_eq_true, if_false, Option.some.injEq, Prod.mk.injEq] at e
      obtain ⟨rfl, rfl⟩ := e
      exact ⟨M, Handed.refl h, hr.of_plain h, rfl, rfl⟩
  unfold pers at hp
  split at hp
  · rename_i t
    obtain ⟨x', hx'⟩ : ∃ x', o = .tmp x' ∧ x' = t := by
      unfold chkRef at hc
      split at hc <;> simp_all
    obtain ⟨rfl, rfl⟩ := hx'
    simp only [rd] at ht
    split at hp
    · rename_i m s xs hl
      rw [hl] at ht
      simp only [Option.some.injEq, Prod.mk.injEq] at hp
      obtain ⟨rfl, rfl⟩ := hp
      by_cases hns : x' ∈ slots
      · exfalso
        simp [chkRef] at hc
        exact hc hns
      · have hA : OwnArr M (.t x' 0) m s xs (a.eval (.tmp x')) := by
          have := h.tmps x' hns
          rw [hl] at this
          exact this
        have key : ∃ M', M'.w = M.w ∧ M'.own = M.own ∧ M'.G = M.G ∧ Evo M M' ∧ M'.Wf ∧ OwnArr M' (.t x' 0) false s xs (a.eval (.tmp x')) ∧ ∀ b, M.own b ≠ some (.t x' 0) → ∀ j, M'.S b j → M.S b j := by
          cases m with
          | true => exact hA.settle h.wf
          | false => exact ⟨M, rfl, rfl, rfl, .refl M, h.wf, hA, fun _ _ _ h => h⟩
        obtain ⟨M', e1, e2, e3, e4, e5, e6, e7⟩ := key
        refine ⟨M', ⟨e1, e4, fun hn b k => by rw [e2]; exact hn b k, ?_, fun b k hb => by rw [e2]; exact hb⟩, own_none e6, rfl, rfl⟩
        refine h.tell e4.grow e5 (fun id b hb => by rw [← e3]; exact hb) (fun b k hb hk _ => ⟨by rw [e2], by rw [e1], fun j hj => e7 b ?_ j hj⟩) (fun _ => ?_)
        · rw [hb]; intro e; simp only [Option.some.injEq] at e; subst e; exact hk rfl
        · exact rep_trep rfl (own_none e6)
    · rename_i i off vo m s xs hl
      rw [hl] at ht
      exact ofCase ht hp
    · rename_i id off vo m s xs hl
      rw [hl] at ht
      cases m with
      | true => simp at hp
      | false =>
        simp only [Bool.false_eq_true, if_false, Option.some.injEq, Prod.mk.injEq] at hp
        obtain ⟨rfl, rfl⟩ := hp
        simp only [TRep] at ht
        obtain ⟨ys, v0, ho, hw⟩ := ht
        exact ⟨M, Handed.refl h, view_plain (h.gowner_arr ho) hw, rfl, rfl⟩
    · split at hp
      · rename_i hpl
        simp only [Option.some.injEq] at hp
        exact plainCase ht hpl hp
      · simp at hp
  · split at hp
    · rename_i i off vo m s xs hl
      rw [hl] at ht
      exact ofCase ht hp
    · split at hp
      · rename_i hpl
        simp only [Option.some.injEq] at hp
        exact plainCase ht hpl hp
      · simp at hp

theorem Handed.trans {M' M'' : Mem} {st' st'' : St} (h : Handed M slots n st' a M') (k : Handed M' slots n st'' a M'') : Handed M slots n st'' a M'' :=
  ⟨k.w.trans h.w, h.evo.trans k.evo, fun x => k.noR (h.noR x), k.fr, fun b j hb => k.own b j (h.own b j hb)⟩

def chkRefs (slots : List Nat) : List Operand → List Ref → Bool
  | [], [] => true
  | o :: os, r :: rs => chkRef slots o r && chkRefs slots os rs
  | _, _ => false

/-- Values, one by one. -/
def RepVs (M : Mem) : List AV → List Value → Prop
  | [], vs => vs = []
  | x :: xs, vs => ∃ v r, vs = v :: r ∧ RepV M.S M.G M.w x v ∧ RepVs M xs r

theorem RepVs.mono {M' : Mem} (g : Grow M.S M.G M.w M'.S M'.G M'.w) : ∀ {xs : List AV} {vs : List Value}, RepVs M xs vs → RepVs M' xs vs
  | [], _, h => h
  | x :: xs, _, ⟨v, r, e, h, k⟩ => ⟨v, r, e, RepV.mono g h, k.mono g⟩

theorem persL_sound : ∀ {os : List Operand} {rs : List Ref} {M : Mem} {st : St}, FR M slots n st a → chkRefs slots os rs = true → ∀ {xs : List AV} {st' : St}, persL st rs = some (xs, st') →
    ∃ M', Handed M slots n st' a M' ∧ RepVs M' xs (os.map a.eval) ∧ (∀ x ∈ xs, plain x = true) ∧ st'.store = st.store
  | [], [], M, st, h, _, xs, st', hp => by
    simp only [persL, Option.some.injEq, Prod.mk.injEq] at hp
    obtain ⟨rfl, rfl⟩ := hp
    exact ⟨M, Handed.refl h, rfl, by simp, rfl⟩
  | o :: os, r :: rs, M, st, h, hc, xs, st', hp => by
    simp only [chkRefs, Bool.and_eq_true] at hc
    simp only [persL] at hp
    split at hp
    · rename_i x st1 h1
      split at hp
      · rename_i ys st2 h2
        simp only [Option.some.injEq, Prod.mk.injEq] at hp
        obtain ⟨rfl, rfl⟩ := hp
        obtain ⟨M1, k1, r1, p1, s1⟩ := pers_sound h hc.1 h1
        obtain ⟨M2, k2, r2, p2, s2⟩ := persL_sound k1.fr hc.2 h2
        exact ⟨M2, k1.trans k2, ⟨_, _, rfl, RepV.mono k2.evo.grow r1, r2⟩, by simpa using ⟨p1, p2⟩, s2.trans s1⟩
      · simp at hp
    · simp at hp
  | [], _ :: _, _, _, _, hc, _, _, _ => by simp [chkRefs] at hc
  | _ :: _, [], _, _, _, hc, _, _, _ => by simp [chkRefs] at hc
end

end Go.VS
/- Operations: what the model does is what the interpreter tells. The simple ones. -/
set_option linter.unusedVariables false
namespace Go.VS

def chkDstO (slots : List Nat) (n : Nat) : Option Tmp → Dst → Bool
  | some x, d => chkDst slots n x d
  | none, .n => true
  | none, _ => false

def OpFits (P : Program) (CS : CallSem) (RP : FuncId → Option (List AV → Option AV)) (slots : List Nat) (n : Nat) (o : Oper) (op : AOp) : Prop :=
  ∀ M st a st', FR M slots n st a → NoR M → runOp CS RP st op = some st' → ∀ (next : Act → World → Prop) (Q : Exit → Act → World → Prop),
    (∀ M' a', FR M' slots n st' a' → NoR M' → Evo M M' → next a' M'.w) → o.upon P a next Q ((execOp a.eval o).run P M.w)

section
variable {P : Program} {CS : CallSem} {RP : FuncId → Option (List AV → Option AV)} {slots : List Nat} {n : Nat}

theorem value_ok {M M1 : Mem} {st1 st' : St} {a : Act} {o : Oper} {d : Dst} {v : Value} {av : AV} {next : Act → World → Prop} {Q : Exit → Act → World → Prop} {w1 : World}
    (h1 : FR M1 slots n st1 a) (e : Evo M M1) (hd : chkDstO slots n o.dst d = true) (ht : TRep M1 st1.vars st1.store (vvOf slots n a) Key.r av v)
    (hp : put st1 d av = some st') (hw : w1 = M1.w) (K : ∀ M' a', FR M' slots n st' a' → NoR M' → Evo M M' → next a' M'.w) : o.upon P a next Q (.ok (.value v) w1) := by
  subst hw
  rw [Oper.upon_value]
  cases ho : o.dst with
  | some x =>
    rw [ho] at hd
    obtain ⟨M', e1, e2, e3, e4⟩ := put_sound h1 hd ht hp
    rw [← e1]
    exact K M' _ e4 e3 (e.trans e2)
  | none =>
    rw [ho] at hd
    cases d with
    | n =>
      simp only [put, Option.some.injEq] at hp
      subst hp
      have hev := M1.rekey_evo (Key.t n)
      exact K (M1.rekey (Key.t n)) a (h1.evolve hev.grow (h1.wf.rekey _) (fun _ _ h => h) (fun b k hb hk => Mem.rekey_pres hb hk)) (Mem.rekey_noR (by simp)) (e.trans hev)
    | _ => simp [chkDstO] at hd

theorem value_pure {M : Mem} {st st' : St} {a : Act} {o : Oper} {d : Dst} {v : Value} {av : AV} {next : Act → World → Prop} {Q : Exit → Act → World → Prop} {w : World}
    (h : FR M slots n st a) (hd : chkDstO slots n o.dst d = true) (ht : TRep M st.vars st.store (vvOf slots n a) Key.r av v)
    (hp : put st d av = some st') (hw : w = M.w) (K : ∀ M' a', FR M' slots n st' a' → NoR M' → Evo M M' → next a' M'.w) : o.upon P a next Q (.ok (.value v) w) :=
  value_ok h (.refl M) hd ht hp hw K

/-- A scalar: the same in every memory. -/
theorem rep_sc {M : Mem} {vars : List AV} {store : List Obj} {vv : Nat → Value} {kt : Nat → Key} {av : AV} {v : Value} (hp : plain av = true) (h : RepV M.S M.G M.w av v) :
    TRep M vars store vv kt av v := rep_trep hp h

section scalars
variable {M : Mem} {vars : List AV} {store : List Obj} {vv : Nat → Value} {kt : Nat → Key} {v : Value}
theorem TRep.bool {b : Bool} (h : TRep M vars store vv kt (.bool b) v) : v = .bool b := by simpa [TRep, Has, RepV, Rep] using h
theorem TRep.int {k : IntKind} {i : Int} (h : TRep M vars store vv kt (.int k i) v) : v = .int k i := by simpa [TRep, Has, RepV, Rep] using h
theorem TRep.str {l : List UInt8} (h : TRep M vars store vv kt (.str l) v) : v = .string ⟨l.toArray⟩ := by simpa [TRep, Has, RepV, Rep] using h
theorem TRep.flt {k : FloatKind} {b : Nat} (h : TRep M vars store vv kt (.flt k b) v) : v = .float k b := by simpa [TRep, Has, RepV, Rep] using h
theorem TRep.cpx {k : FloatKind} {a b : Nat} (h : TRep M vars store vv kt (.cpx k a b) v) : v = .complex k a b := by simpa [TRep, Has, RepV, Rep] using h
end scalars

theorem ByteArray_toList (l : List UInt8) : (ByteArray.mk l.toArray).toList = l := by
  have key : ∀ (k : Nat) (i : Nat) (acc : List UInt8), l.length - i = k → i ≤ l.length → ByteArray.toList.loop (ByteArray.mk l.toArray) i acc = acc.reverse ++ l.drop i := by
    intro k
    induction k with
    | zero =>
      intro i acc h hi
      have : i = l.length := by omega
      subst this
      unfold ByteArray.toList.loop
      simp [ByteArray.size]
    | succ k ih =>
      intro i acc h hi
      have hlt : i < l.length := by omega
      unfold ByteArray.toList.loop
      have hs : i < (ByteArray.mk l.toArray).size := by simpa [ByteArray.size] using hlt
      rw [if_pos hs, ih (i + 1) _ (by omega) (by omega)]
      rw [List.drop_eq_getElem_cons hlt]
      simp [ByteArray.get!, hlt]
  simpa [ByteArray.toList] using key l.length 0 [] (by simp) (by simp)

theorem strBin_run {op : BinOp} {x y : List UInt8} {r : AV} (h : strBin op x y = some r) (w : World) :
    ∃ v, (Op.stringOp op ⟨x.toArray⟩ ⟨y.toArray⟩).run P w = .ok v w ∧ plain r = true ∧ ∀ S G w', RepV S G w' r v := by
  unfold strBin at h
  unfold Op.stringOp
  simp only [ByteArray_toList]
  split at h
  · split at h
    · rename_i hl
      simp only [Option.some.injEq] at h
      subst h
      refine ⟨.string (⟨x.toArray⟩ ++ ⟨y.toArray⟩), ?_, rfl, ?_⟩
      · rw [if_neg]
        · rfl
        · have hm : IntKind.i64.max = 9223372036854775807 := by decide
          rw [hm]
          simp [ByteArray.size]
          omega
      · intro S G w'
        simp only [RepV, Rep, List.cons.injEq, Value.string.injEq, and_true]
        apply ByteArray.ext
        simp
    · simp at h
  all_goals first
    | (simp only [Option.some.injEq] at h; subst h; exact ⟨_, rfl, rfl, fun S G w' => by simp [RepV, Rep]⟩)
    | simp at h

theorem intBin_run {op : BinOp} {k : IntKind} {x y : Int} {r : AV} (h : intBin op k x y = some r) (hs : isShift op = false) (T : TypeId) (w : World) :
    ∃ v, (binOp op T (.int k x) (.int k y)).run P w = .ok v w ∧ plain r = true ∧ ∀ S G w', RepV S G w' r v := by
  cases op <;> simp only [intBin, isShift, Bool.true_eq_false, reduceCtorEq] at h hs
  case quo =>
    split at h
    · simp at h
    · rename_i hy
      simp only [Option.some.injEq] at h; subst h
      exact ⟨.int k (k.wrap (x.tdiv y)), by simp [binOp, Op.intDiv, hy], rfl, fun S G w' => by simp [RepV, Rep]⟩
  case rem =>
    split at h
    · simp at h
    · rename_i hy
      simp only [Option.some.injEq] at h; subst h
      exact ⟨.int k (x.tmod y), by simp [binOp, Op.intDiv, hy], rfl, fun S G w' => by simp [RepV, Rep]⟩
  all_goals
    simp only [Option.some.injEq] at h
    subst h
    refine ⟨_, by simp [binOp, Op.intArith, Op.intBits, Op.intCmp]; rfl, rfl, fun S G w' => by simp [RepV, Rep, bitsOp]⟩

theorem binop_run {op : BinOp} {x y r : AV} (h : binop op x y = some r) (T : TypeId) (w : World) {vx vy : Value}
    (hx : ∀ k i, x = .int k i → vx = .int k i) (hx' : ∀ l, x = .str l → vx = .string ⟨l.toArray⟩) (hy : ∀ k i, y = .int k i → vy = .int k i) (hy' : ∀ l, y = .str l → vy = .string ⟨l.toArray⟩) (ox oy : Operand) :
    ∃ v, (do eqGuard op T ox oy vx vy; binOp op T vx vy : Sem Value).run P w = .ok v w ∧ plain r = true ∧ ∀ S G w', RepV S G w' r v := by
  unfold binop at h
  split at h
  · rename_i k i k' j
    rw [hx _ _ rfl, hy _ _ rfl]
    have hg : (eqGuard op T ox oy (.int k i) (.int k' j)).run P w = .ok () w := by
      unfold eqGuard
      split <;> rfl
    simp only [Sem.run_bind, hg, Result.andThen_ok]
    split at h
    · rename_i hs
      unfold intShift at h
      split at h
      · simp at h
      · rename_i hn
        cases op <;> simp only [isShift, Bool.false_eq_true, reduceCtorEq, Option.some.injEq] at h hs
        all_goals
          subst h
          refine ⟨_, by simp only [binOp, Op.shift, if_neg hn]; rfl, rfl, fun S G w' => by simp [RepV, Rep]⟩
    · rename_i hs
      split at h
      · rename_i hk
        subst hk
        obtain ⟨v, h1, h2, h3⟩ := intBin_run (P := P) h (by simpa using hs) T w
        refine ⟨v, ?_, h2, h3⟩
        exact h1
      · simp at h
  · rename_i l l'
    rw [hx' _ rfl, hy' _ rfl]
    have hg : (eqGuard op T ox oy (.string ⟨l.toArray⟩) (.string ⟨l'.toArray⟩)).run P w = .ok () w := by
      unfold eqGuard
      split <;> rfl
    simp only [Sem.run_bind, hg, Result.andThen_ok]
    obtain ⟨v, h1, h2, h3⟩ := strBin_run (P := P) h w
    refine ⟨v, ?_, h2, h3⟩
    rw [← h1]
    cases op <;> first | rfl | simp [strBin] at h
  · simp at h

theorem unop_run {op : UnOp} {x r : AV} (h : unop op x = some r) (w : World) {vx : Value} (hx : ∀ k i, x = .int k i → vx = .int k i) (hb : ∀ b, x = .bool b → vx = .bool b) :
    ∃ v, (Op.unary op vx).run P w = .ok v w ∧ plain r = true ∧ ∀ S G w', RepV S G w' r v := by
  unfold unop at h
  split at h
  · rw [hb _ rfl]
    split at h
    · simp only [Option.some.injEq] at h; subst h
      exact ⟨_, rfl, rfl, fun S G w' => by simp [RepV, Rep]⟩
    · simp at h
  · rw [hx _ _ rfl]
    split at h
    all_goals first
      | (simp only [Option.some.injEq] at h; subst h; exact ⟨_, rfl, rfl, fun S G w' => by simp [RepV, Rep, bitsOp]⟩)
      | simp at h
  · simp at h

end
end Go.VS
/- Operations: moves, choices, arithmetic, lengths, indexes, fields, loads. -/
set_option linter.unusedVariables false
namespace Go.VS

/-- Keys are told otherwise. -/
def Mem.ren (M : Mem) (f : Key → Key) : Mem := { M with own := fun b => (M.own b).map f }

theorem Mem.ren_own {M : Mem} {f : Key → Key} {b : Nat} {k : Key} (h : M.own b = some k) : (M.ren f).own b = some (f k) := by simp [Mem.ren, h]

theorem Mem.ren_evo (M : Mem) (f : Key → Key) : Evo M (M.ren f) :=
  .ghost rfl (fun _ _ h => h) (fun _ _ h => h) (fun _ h => by simp [Mem.ren, h]) (fun _ _ h => .inl h)

theorem Mem.Wf.ren {M : Mem} (h : M.Wf) {f : Key → Key} (hf : ∀ k, k.isG = true → f k = k) : (M.ren f).Wf where
  sdom := h.sdom
  odom b k hk := by
    simp only [Mem.ren, Option.map_eq_some_iff] at hk
    obtain ⟨j, hj, _⟩ := hk
    exact h.odom b j hj
  gown id b hb := by
    rcases h.gown id b hb with e | e
    · exact .inl (by rw [Mem.ren_own e, hf _ rfl])
    · exact .inr (by rw [Mem.ren_own e, hf _ rfl])

theorem Mem.ren_pres {M : Mem} {f : Key → Key} {b : Nat} {k : Key} (hb : M.own b = some k) (hk : f k = k) : Pres M (M.ren f) b :=
  ⟨by rw [Mem.ren_own hb, hb, hk], rfl, fun _ h => h⟩

theorem OwnArr.ren {M : Mem} {f : Key → Key} {k : Key} {m : Bool} {s : Nat} {xs : List AV} {v : Value} (h : OwnArr M k m s xs v) : OwnArr (M.ren f) (f k) m s xs v := by
  rcases h with h | ⟨hne, b, o, cap, hv, ho, h⟩
  · exact .inl h
  · exact .inr ⟨hne, b, o, cap, hv, Mem.ren_own ho, h⟩

theorem Has.ren {M : Mem} {f : Key → Key} {k : Key} {x : AV} {v : Value} (h : Has M k x v) : Has (M.ren f) (f k) x v := by
  unfold Has at *
  split at h
  · exact h.ren
  · exact h

/-- What temporary y owned is free to go on. -/
def Key.free (y : Nat) : Key → Key
  | .t z k => if z = y then .r k else .t z k
  | k => k

theorem Key.free_same {y : Nat} {k : Key} (h : ¬ k.ofTmp y) : Key.free y k = k := by
  cases k <;> simp_all [Key.free, Key.ofTmp]

section
variable {P : Program} {CS : CallSem} {RP : FuncId → Option (List AV → Option AV)} {slots : List Nat} {n : Nat} {M : Mem} {st : St} {a : Act}

theorem tmp_free (h : FR M slots n st a) {y : Nat} (hy : y ∉ slots) : FR (M.ren (Key.free y)) slots n (kill st y .undef) a :=
  h.tell (M.ren_evo _).grow (h.wf.ren (by intro k hk; cases k <;> simp_all [Key.isG, Key.free])) (fun _ _ h => h)
    (fun b k hb hk _ => Mem.ren_pres hb (Key.free_same hk)) (fun _ => by simp [TRep, Has, RepV])

theorem tmp_own (h : FR M slots n st a) {y : Nat} (hy : y ∉ slots) {m : Bool} {s : Nat} {xs : List AV} (hl : look y st.tmps = .sl (.own m) s xs) :
    OwnArr (M.ren (Key.free y)) (.r 0) m s xs (a.tmps.getD y undef) := by
  have := h.tmps y hy
  rw [hl] at this
  have h2 : OwnArr M (.t y 0) m s xs (a.tmps.getD y undef) := this
  have := h2.ren (f := Key.free y)
  simpa [Key.free] using this

theorem tmp_tup (h : FR M slots n st a) {y : Nat} (hy : y ∉ slots) {vs : List AV} (hl : look y st.tmps = .tup vs) :
    TupRep (M.ren (Key.free y)) (fun k => .r (k + 1)) vs (a.tmps.getD y undef) := by
  have := h.tmps y hy
  rw [hl] at this
  obtain ⟨u, h1, h2, h3⟩ := (this : TupRep M (fun k => .t y (k + 1)) vs (a.tmps.getD y undef))
  refine ⟨u, h1, h2, fun k x hk => ?_⟩
  obtain ⟨z, h4, h5⟩ := h3 k x hk
  have := h5.ren (f := Key.free y)
  exact ⟨z, h4, by simpa [Key.free] using this⟩

theorem chkRef_t {o : Operand} {y : Nat} (h : chkRef slots o (.t y) = true) : o = .tmp y ∧ y ∉ slots := by
  cases o with
  | tmp x =>
    simp only [chkRef, Bool.and_eq_true, beq_iff_eq, Bool.not_eq_true', List.contains_eq_mem, decide_eq_false_iff_not] at h
    obtain ⟨rfl, h⟩ := h
    exact ⟨rfl, h⟩
  | _ => simp [chkRef] at h

theorem view_not_own (i : Nat) (av : AV) (m : Bool) (s : Nat) (xs : List AV) : view i av ≠ .sl (.own m) s xs := by
  cases av with
  | sl o s xs => cases o <;> simp [view]
  | _ => simp [view]

/-- A value that is read, as a new one. -/
theorem rd_new (h : FR M slots n st a) {o : Operand} {r : Ref} (hc : chkRef slots o r = true) (hno : ∀ m s xs, rd st r ≠ .sl (.own m) s xs) (hnt : ∀ vs, rd st r ≠ .tup vs) (kt : Nat → Key) :
    TRep M st.vars st.store (vvOf slots n a) kt (rd st r) (a.eval o) := by
  obtain ⟨kt', ht⟩ := rd_trep h hc
  generalize rd st r = av at *
  unfold TRep Has at *
  (repeat' split at ht) <;> first
    | exact absurd rfl (hnt _)
    | exact absurd rfl (hno _ _ _)
    | exact ht

theorem fits_mv {o : Oper} {x : Operand} (ho : o.op = .move x ∨ o.op = .assign x) {d : Dst} {r : Ref} (hd : chkDstO slots n o.dst d = true) (hc : chkRef slots x r = true) :
    OpFits P CS RP slots n o (.mv d r) := by
  intro M st a st' h hn hr next Q K
  have hrun : (execOp a.eval o).run P M.w = .ok (.value (a.eval x)) M.w := by
    rcases ho with ho | ho <;> simp [execOp, ho]
  rw [hrun]
  cases r with
  | t y =>
    obtain ⟨rfl, hy⟩ := chkRef_t hc
    simp only [runOp] at hr
    split at hr
    · rename_i m s xs hl
      exact value_ok (av := .sl (.own m) s xs) (tmp_free h hy) (M.ren_evo _) hd (tmp_own h hy hl) hr rfl K
    · rename_i vs hl
      exact value_ok (av := .tup vs) (tmp_free h hy) (M.ren_evo _) hd (tmp_tup h hy hl) hr rfl K
    · rename_i h1 h2
      exact value_pure h hd (rd_new h hc (by simpa [rd] using h1) (by simpa [rd] using h2) _) hr rfl K
  | v i =>
    simp only [runOp] at hr
    refine value_pure h hd (rd_new h hc ?_ ?_ _) hr rfl K
    · intro m s xs
      exact view_not_own _ _ _ _ _
    · obtain ⟨kt, ht⟩ := rd_trep h hc
      intro vs e
      simp only [rd] at e
      unfold view at e
      split at e <;> try simp at e
      cases x <;> simp [chkRef] at hc
      obtain ⟨av, h1, h2, _⟩ := h.var hc
      simp only [h1, Option.getD_some] at e
      subst e
      simp [VRep, Has, RepV, Rep] at h2
  | c av =>
    simp only [runOp] at hr
    have hpl : plain av = true := by
      cases x <;> simp [chkRef] at hc
      · exact (constOk_rep (S := M.S) (G := M.G) (w := M.w) hc).2
      · cases av <;> simp_all [plain]
    refine value_pure h hd (rd_new h hc ?_ ?_ _) hr rfl K
    · intro m s xs e; simp only [rd] at e; subst e; simp [plain] at hpl
    · intro vs e; simp only [rd] at e; subst e; simp [plain] at hpl

theorem fits_pick {o : Oper} {x y z : Operand} (ho : o.op = .pick x y z) {d : Dst} {rx ry rz : Ref} (hd : chkDstO slots n o.dst d = true)
    (hx : chkRef slots x rx = true) (hy : chkRef slots y ry = true) (hz : chkRef slots z rz = true) : OpFits P CS RP slots n o (.pick d rx ry rz) := by
  intro M st a st' h hn hr next Q K
  simp only [runOp] at hr
  split at hr
  · rename_i t ht
    obtain ⟨kt, hb⟩ := rd_trep h hx
    rw [ht] at hb
    have hv := hb.bool
    have hrun : (execOp a.eval o).run P M.w = .ok (.value (if t then a.eval y else a.eval z)) M.w := by
      simp [execOp, ho, hv, asBool]
    rw [hrun]
    cases t with
    | true =>
      simp only [if_true] at hr ⊢
      split at hr
      · rename_i v st1 hp
        obtain ⟨M1, k1, r1, p1, _⟩ := pers_sound h hy hp
        exact value_ok k1.fr k1.evo hd (rep_trep p1 r1) hr k1.w.symm K
      · simp at hr
    | false =>
      simp only [Bool.false_eq_true, if_false] at hr ⊢
      split at hr
      · rename_i v st1 hp
        obtain ⟨M1, k1, r1, p1, _⟩ := pers_sound h hz hp
        exact value_ok k1.fr k1.evo hd (rep_trep p1 r1) hr k1.w.symm K
      · simp at hr
  · simp at hr

theorem fits_bin {o : Oper} {op : BinOp} {T T' : TypeId} {x y : Operand} (ho : o.op = .binOp op T x y T') {d : Dst} {rx ry : Ref} (hd : chkDstO slots n o.dst d = true)
    (hx : chkRef slots x rx = true) (hy : chkRef slots y ry = true) : OpFits P CS RP slots n o (.bin d op rx ry) := by
  intro M st a st' h hn hr next Q K
  simp only [runOp] at hr
  split at hr
  · rename_i r hb
    obtain ⟨kx, tx⟩ := rd_trep h hx
    obtain ⟨ky, ty⟩ := rd_trep h hy
    obtain ⟨v, h1, h2, h3⟩ := binop_run (P := P) hb T M.w (vx := a.eval x) (vy := a.eval y) (fun k i e => by rw [e] at tx; exact tx.int) (fun l e => by rw [e] at tx; exact tx.str)
      (fun k i e => by rw [e] at ty; exact ty.int) (fun l e => by rw [e] at ty; exact ty.str) x y
    have hrun : (execOp a.eval o).run P M.w = .ok (.value v) M.w := by
      simp only [execOp, ho]
      show (((do eqGuard op T x y (a.eval x) (a.eval y); binOp op T (a.eval x) (a.eval y) : Sem Value)) >>= fun s => pure (Next.value s)).run P M.w = _
      rw [Sem.run_bind, h1]
      rfl
    rw [hrun]
    exact value_pure h hd (rep_trep h2 (h3 _ _ _)) hr rfl K
  · simp at hr

theorem fits_un {o : Oper} {op : UnOp} {T : TypeId} {x : Operand} (ho : o.op = .unOp op T x) {d : Dst} {rx : Ref} (hd : chkDstO slots n o.dst d = true)
    (hx : chkRef slots x rx = true) : OpFits P CS RP slots n o (.un d op rx) := by
  intro M st a st' h hn hr next Q K
  simp only [runOp] at hr
  split at hr
  · rename_i r hb
    obtain ⟨kx, tx⟩ := rd_trep h hx
    obtain ⟨v, h1, h2, h3⟩ := unop_run (P := P) hb M.w (vx := a.eval x) (fun k i e => by rw [e] at tx; exact tx.int) (fun b e => by rw [e] at tx; exact tx.bool)
    have hrun : (execOp a.eval o).run P M.w = .ok (.value v) M.w := by
      simp [execOp, ho, h1]
    rw [hrun]
    exact value_pure h hd (rep_trep h2 (h3 _ _ _)) hr rfl K
  · simp at hr

theorem run_resolve_builtin {ρ : Operand → Value} {b : Builtin} {args : Array Operand} {ts : Array TypeId} {T : TypeId} (w : World) :
    (resolve ρ { callee := .builtin b, args := args, argTypes := ts } T).run P w =
      .ok { target := .builtin b ts T (args.map fun | .const _ => true | _ => false), args := args.map ρ } w := rfl

theorem SlC.val {s : Nat} {xs : List AV} {v : Value} (h : SlC M s xs v) : ∃ a cap, v = .slice a xs.length cap ∧ xs.length ≤ cap ∧ (a = none → cap = 0) := by
  rcases h with ⟨rfl, h⟩ | ⟨b, o, cap, h, hc, _⟩
  · exact ⟨none, 0, h, Nat.le_refl _, fun _ => rfl⟩
  · exact ⟨_, cap, h, hc, fun e => by simp at e⟩

theorem len_str {T T' : TypeId} {ts : Array TypeId} (hT : ts[0]? = some T) (hu : P.underlying T = some .string) (l : List UInt8) (w : World) :
    (Builtin.len_ ts T' #[.string ⟨l.toArray⟩]).run P w = .ok (.int .i64 l.length) w := by
  unfold Builtin.len_
  rw [hT]
  show (underlying T >>= _).run P w = _
  rw [Sem.run_bind, run_underlying hu]
  rfl

theorem len_sl {T T' e : TypeId} {ts : Array TypeId} (hT : ts[0]? = some T) (hu : P.underlying T = some (.slice e)) (b : Option Addr) (k cap : Nat) (w : World) :
    (Builtin.len_ ts T' #[.slice b k cap]).run P w = .ok (.int .i64 k) w := by
  unfold Builtin.len_
  rw [hT]
  show (underlying T >>= _).run P w = _
  rw [Sem.run_bind, run_underlying hu]
  rfl

theorem fits_len {o : Oper} {x : Operand} {T : TypeId} {ts : Array TypeId} (ho : o.op = .call { callee := .builtin .len, args := #[x], argTypes := ts }) (hT : ts[0]? = some T) {str : Bool}
    (hu : match str with | true => P.underlying T = some .string | false => ∃ e, P.underlying T = some (.slice e)) {d : Dst} {rx : Ref} (hd : chkDstO slots n o.dst d = true)
    (hx : chkRef slots x rx = true) : OpFits P CS RP slots n o (.len d str rx) := by
  intro M st a st' h hn hr next Q K
  simp only [runOp] at hr
  obtain ⟨kx, tx⟩ := rd_trep h hx
  split at hr
  · rename_i l hl
    rw [hl] at tx
    have hrun : (execOp a.eval o).run P M.w = .ok (.value (.int .i64 l.length)) M.w := by
      simp only [execOp, ho, Sem.run_bind, run_resolve_builtin, Result.andThen_ok, invoke, builtin]
      rw [show (#[x].map a.eval) = #[.string ⟨l.toArray⟩] by simp [tx.str], len_str hT hu]
      rfl
    rw [hrun]
    exact value_pure h hd (rep_trep rfl (by simp [RepV, Rep])) hr rfl K
  · rename_i ow s xs hl
    rw [hl] at tx
    obtain ⟨a', cap, hv, _⟩ := (sl_content h tx).val
    obtain ⟨e, hu⟩ := hu
    have hrun : (execOp a.eval o).run P M.w = .ok (.value (.int .i64 xs.length)) M.w := by
      simp only [execOp, ho, Sem.run_bind, run_resolve_builtin, Result.andThen_ok, invoke, builtin]
      rw [show (#[x].map a.eval) = #[.slice a' xs.length cap] by simp [hv], len_sl hT hu]
      rfl
    rw [hrun]
    exact value_pure h hd (rep_trep rfl (by simp [RepV, Rep])) hr rfl K
  · simp at hr

theorem fits_idx {o : Oper} {x i : Operand} {T : TypeId} (ho : o.op = .index T x i) (hu : P.underlying T = some .string) {d : Dst} {rx ri : Ref} (hd : chkDstO slots n o.dst d = true)
    (hx : chkRef slots x rx = true) (hi : chkRef slots i ri = true) : OpFits P CS RP slots n o (.idx d rx ri) := by
  intro M st a st' h hn hr next Q K
  simp only [runOp] at hr
  obtain ⟨kx, tx⟩ := rd_trep h hx
  obtain ⟨ki, ti⟩ := rd_trep h hi
  split at hr
  · rename_i l k j hl hj
    rw [hl] at tx
    rw [hj] at ti
    split at hr
    · rename_i h0
      split at hr
      · rename_i b hb
        obtain ⟨hlt, hbe⟩ := List.getElem?_eq_some_iff.1 hb
        have hg : (ByteArray.mk l.toArray)[j.toNat]? = some b := by
          simp only [getElem?_def, ByteArray.size, List.size_toArray, hlt, dif_pos, Option.some.injEq]
          show (l.toArray)[j.toNat] = b
          simpa using hbe
        have hrun : (execOp a.eval o).run P M.w = .ok (.value (.int .u8 b.toNat)) M.w := by
          simp only [execOp, ho, Sem.run_bind, Instr.index, tx.str, ti.int, asIntOf, Sem.run_pure, Result.andThen_ok, run_underlying hu, if_pos h0]
          rw [hg]
          rfl
        rw [hrun]
        exact value_pure h hd (rep_trep rfl (by simp [encByte, RepV, Rep])) hr rfl K
      · simp at hr
    · simp at hr
  · simp at hr

theorem fits_nck {o : Oper} {x : Operand} (ho : o.op = .nilCheck x) {d : Dst} {rx : Ref} (hd : chkDstO slots n o.dst d = true)
    (hx : chkRef slots x rx = true) : OpFits P CS RP slots n o (.nck d rx) := by
  intro M st a st' h hn hr next Q K
  simp only [runOp] at hr
  obtain ⟨kx, tx⟩ := rd_trep h hx
  split at hr
  · rename_i j off hl
    rw [hl] at tx
    have tx' := tx
    simp only [TRep] at tx
    obtain ⟨b, cs, h1, h2, h3⟩ := tx
    have hrun : (execOp a.eval o).run P M.w = .ok (.value (a.eval x)) M.w := by
      simp [execOp, ho, h3]
    rw [hrun]
    exact value_pure (av := .lptr j off) h hd tx' hr rfl K
  · rename_i id off hl
    rw [hl] at tx
    have tx' := tx
    simp only [TRep, Has, RepV, Rep, List.cons.injEq, and_true] at tx
    obtain ⟨b, h1, h3⟩ := tx
    have hrun : (execOp a.eval o).run P M.w = .ok (.value (a.eval x)) M.w := by
      simp [execOp, ho, h3]
    rw [hrun]
    exact value_pure (av := .ptr id off) h hd tx' hr rfl K
  · simp at hr

theorem fits_cvi {o : Oper} {x : Operand} {T T' : TypeId} {k : IntKind} (ho : o.op = .convert T T' x) (hu : ∃ e, P.underlying T = some e) (hu' : P.underlying T' = some (.int k)) {d : Dst} {rx : Ref}
    (hd : chkDstO slots n o.dst d = true) (hx : chkRef slots x rx = true) : OpFits P CS RP slots n o (.cvi d k rx) := by
  intro M st a st' h hn hr next Q K
  simp only [runOp] at hr
  obtain ⟨kx, tx⟩ := rd_trep h hx
  split at hr
  · rename_i j i hl
    rw [hl] at tx
    obtain ⟨e, hu⟩ := hu
    have hrun : (execOp a.eval o).run P M.w = .ok (.value (.int k (k.wrap i))) M.w := by
      simp [execOp, ho, convert, run_underlying hu, run_underlying hu', tx.int, Conv.intToInt]
    rw [hrun]
    exact value_pure h hd (rep_trep rfl (by simp [RepV, Rep])) hr rfl K
  · simp at hr

theorem fits_ext {o : Oper} {x k : Nat} (ho : o.op = .extract (.tmp x) k) {d : Dst} (hd : chkDstO slots n o.dst d = true) (hx : x ∉ slots) : OpFits P CS RP slots n o (.ext d x k) := by
  intro M st a st' h hn hr next Q K
  simp only [runOp] at hr
  split at hr
  · rename_i vs hl
    split at hr
    · rename_i v hv
      have ht := h.tmps x hx
      rw [hl] at ht
      obtain ⟨u, h1, h2, h3⟩ := (ht : TupRep M (fun k => .t x (k + 1)) vs (a.tmps.getD x undef))
      obtain ⟨z, h4, h5⟩ := h3 k v hv
      have hrun : (execOp a.eval o).run P M.w = .ok (.value z) M.w := by
        simp only [execOp, ho, Sem.run_bind, Act.eval, h1, Instr.extract, h4]
        rfl
      rw [hrun]
      let f : Key → Key := fun q => if q = .t x (k + 1) then .r 0 else q
      have hf : ∀ q, q ≠ .t x (k + 1) → f q = q := fun q hq => if_neg hq
      have hfr : FR (M.ren f) slots n (kill st x (.tup (vs.set k .undef))) a := by
        refine h.tell (M.ren_evo _).grow (h.wf.ren (by intro q hq; exact hf q (by intro e; subst e; simp [Key.isG] at hq))) (fun _ _ h => h)
          (fun b q hb hq _ => Mem.ren_pres hb (hf q (by intro e; subst e; exact hq rfl))) (fun _ => ?_)
        refine ⟨u, h1, by simp [h2], fun j y hj => ?_⟩
        by_cases e : j = k
        · subst e
          have hlt : j < vs.length := (List.getElem?_eq_some_iff.1 hv).1
          have : y = .undef := by simpa [List.getElem?_set, hlt] using hj.symm
          subst this
          exact ⟨z, h4, by simp [Has, RepV]⟩
        · have hj' : vs[j]? = some y := by simpa [List.getElem?_set, Ne.symm e] using hj
          obtain ⟨z', h6, h7⟩ := h3 j y hj'
          refine ⟨z', h6, ?_⟩
          have := h7.ren (f := f)
          rwa [hf _ (by simp [e])] at this
      refine value_ok hfr (M.ren_evo _) hd ?_ hr rfl K
      have := h5.ren (f := f)
      simp only [f, if_true] at this
      have hh : Has (M.ren f) (.r 0) v z := this
      have hv' : ∀ o' s xs, v = .sl o' s xs → o' = .none ∨ o' = .full ∨ ∃ m, o' = .own m := by
        intro o' s xs e
        subst e
        cases o' <;> simp_all [Has, RepV, Rep]
      unfold TRep
      split
      · simp [Has, RepV, Rep] at hh
      · rcases hv' _ _ _ rfl with e | e | ⟨m, e⟩ <;> simp at e
      · rcases hv' _ _ _ rfl with e | e | ⟨m, e⟩ <;> simp at e
      · simp [Has, RepV, Rep] at hh
      · simp [Has, RepV, Rep] at hh
      · simp [Has, RepV, Rep] at hh
      · exact hh
    · simp at hr
  · simp at hr

end
end Go.VS
/- Operations: addresses of elements and fields, loads, slices of slices. -/
set_option linter.unusedVariables false
namespace Go.VS

theorem addr_add (b o k : Nat) : (⟨b, o, none⟩ : Addr).add k = ⟨b, o + k, none⟩ := by
  unfold Addr.add
  split <;> simp_all

def SizeIs (P : Program) (t s : Nat) : Prop := ∃ i, P.info? t = some i ∧ i.size = s

section
variable {P : Program} {CS : CallSem} {RP : FuncId → Option (List AV → Option AV)} {slots : List Nat} {n : Nat} {M : Mem} {st : St} {a : Act}

theorem run_typeInfo' {t : TypeId} {i : TypeInfo} (h : P.info? t = some i) (w : World) : (typeInfo t).run P w = .ok i w := by
  unfold typeInfo
  rw [Sem.run_bind, run_program]
  simp only [Result.andThen_ok, h]
  rfl

theorem run_sizeOf' {t s : Nat} (h : SizeIs P t s) (w : World) : (sizeOf t).run P w = .ok s w := by
  obtain ⟨i, h1, h2⟩ := h
  unfold sizeOf
  rw [Sem.run_bind, run_typeInfo' h1]
  simp [h2]

theorem indexAt_run {T e s : Nat} (hu : P.underlying T = some (.slice e)) (hs : SizeIs P e s) {b o len cap : Nat} {k : IntKind} {i : Int} (h0 : 0 ≤ i) (h1 : i.toNat < len) (w : World) :
    (Instr.indexAt T (.slice (some ⟨b, o, none⟩) len cap) (.int k i)).run P w = .ok (.pointer (some ⟨b, o + i.toNat * s, none⟩)) w := by
  unfold Instr.indexAt
  simp only [asIntOf, Sem.run_bind, Sem.run_pure, Result.andThen_ok, run_underlying hu]
  have : 0 ≤ i ∧ i < (len : Int) := ⟨h0, by omega⟩
  simp only [this, and_self, if_true, Sem.run_bind, run_sizeOf' hs, Result.andThen_ok, Sem.run_pure, addr_add]

theorem fits_iad {o : Oper} {x i : Operand} {T e s : Nat} (ho : o.op = .indexAddr T x i) (hu : P.underlying T = some (.slice e)) (hs : SizeIs P e s) {d : Dst} {rx ri : Ref}
    (hd : chkDstO slots n o.dst d = true) (hx : chkRef slots x rx = true) (hi : chkRef slots i ri = true) : OpFits P CS RP slots n o (.iad d s rx ri) := by
  intro M st a st' h hn hr next Q K
  simp only [runOp] at hr
  obtain ⟨kx, tx⟩ := rd_trep h hx
  obtain ⟨ki, ti⟩ := rd_trep h hi
  split at hr
  · rename_i ow s' xs k j hl hj
    rw [hl] at tx
    rw [hj] at ti
    split at hr
    · rename_i hss
      subst hss
      split at hr
      · rename_i h0
        split at hr
        · rename_i hlt
          have hrun : ∀ {b p cap : Nat}, a.eval x = .slice (some ⟨b, p, none⟩) xs.length cap →
              (execOp a.eval o).run P M.w = .ok (.value (.pointer (some ⟨b, p + j.toNat * s', none⟩))) M.w := by
            intro b p cap hv
            simp only [execOp, ho, ti.int, hv, Sem.run_bind, indexAt_run hu hs h0 hlt, Result.andThen_ok, Sem.run_pure]
          have plainCase : ∀ {M' : Mem} {st1 : St}, Handed M slots n st1 a M' → RepV M'.S M'.G M'.w (.sl .none s' xs) (a.eval x) → put st1 d (.eptr .none s' xs j.toNat 0) = some st' →
              o.upon P a next Q ((execOp a.eval o).run P M.w) := by
            intro M' st1 hk hR hp
            simp only [RepV, Rep, List.cons.injEq, and_true] at hR
            rcases hR with ⟨_, e⟩ | ⟨b, p, cap, hv, hc, hS, hE⟩
            · subst e; simp at hlt
            · rw [hrun hv]
              refine value_ok hk.fr hk.evo hd (rep_trep rfl ?_) hp hk.w.symm K
              simp only [RepV, Rep]
              exact ⟨b, p, by simp, hlt, hS, hE⟩
          have ofRun : ∀ {i off vo : Nat} {m : Bool} {ys : List AV} {v0 : Value}, OwnArr M (.v i off) m s' ys v0 ∨ (∃ id, OwnArr M (.g id off) m s' ys v0) → View s' ys v0 vo xs (a.eval x) →
              ∃ b p C, v0 = .slice (some ⟨b, p, none⟩) ys.length C ∧ vo + xs.length ≤ ys.length ∧ xs = (ys.drop vo).take xs.length ∧
                (execOp a.eval o).run P M.w = .ok (.value (.pointer (some ⟨b, p + (vo + j.toNat) * s' + 0, none⟩))) M.w := by
            intro i off vo m ys v0 hA hw
            rcases hw with ⟨e0, e1, e2⟩ | ⟨e1, _⟩ | ⟨b, p, C, cap, e1, e2, e3, e4, e5, _⟩
            · subst e0 e1
              have hb : ∃ b p cap, v0 = .slice (some ⟨b, p, none⟩) xs.length cap := by
                rcases hA with hA | ⟨_, hA⟩ <;>
                · rcases hA with ⟨e, _⟩ | ⟨_, b, p, cap, hv, _⟩
                  · subst e; simp at hlt
                  · exact ⟨b, p, cap, hv⟩
              obtain ⟨b, p, cap, hv⟩ := hb
              exact ⟨b, p, cap, hv, by omega, by simp, by rw [hrun (e2.trans hv)]; simp⟩
            · subst e1; simp at hlt
            · exact ⟨b, p, C, e1, e2, e3, by rw [hrun e4]; simp [Nat.add_mul, Nat.add_assoc]⟩
          split at hr
          · rename_i i' off vo m
            simp only [TRep] at tx
            obtain ⟨ys, v0, hO, hw⟩ := tx
            obtain ⟨b, p, C, e1, e2, e3, e4⟩ := ofRun (i := i') (off := off) (.inl (h.owner_arr hO)) hw
            rw [e4]
            refine value_pure (av := .eptr (.of i' off vo m) s' xs j.toNat 0) h hd ?_ hr rfl K
            simp only [TRep]
            exact ⟨ys, b, p, C, e1 ▸ hO, e2, e3, hlt, rfl⟩
          · simp at hr
          · rename_i hno1 hno2
            cases rx with
            | t y =>
              simp only [rd] at hl
              simp only [freezeT, hl] at hr
              cases ow with
              | own m =>
                simp only at hr
                obtain ⟨M', k1, r1, p1, _⟩ := pers_sound h hx (x := .sl .none s' xs) (st' := kill st y (.sl .none s' xs)) (by simp [pers, hl])
                exact plainCase k1 r1 hr
              | none => exact plainCase (Handed.refl h) (by simpa [TRep, Has] using tx) hr
              | full => exact plainCase (Handed.refl h) (rep_content_full (by simpa [TRep, Has] using tx)).2 hr
              | of _ _ _ _ => exact absurd rfl (hno1 _ _ _ _)
              | ofg _ _ _ _ => exact absurd rfl (hno2 _ _ _ _)
            | v i' =>
              simp only [freezeT] at hr
              cases ow with
              | own m => exact absurd hl (view_not_own _ _ _ _ _)
              | none => exact plainCase (Handed.refl h) (by simpa [TRep, Has] using tx) hr
              | full => exact plainCase (Handed.refl h) (rep_content_full (by simpa [TRep, Has] using tx)).2 hr
              | of _ _ _ _ => exact absurd rfl (hno1 _ _ _ _)
              | ofg _ _ _ _ => exact absurd rfl (hno2 _ _ _ _)
            | c av =>
              simp only [freezeT] at hr
              cases ow with
              | own m =>
                simp only [rd] at hl
                subst hl
                cases x <;> simp [chkRef, constOk] at hx
              | none => exact plainCase (Handed.refl h) (by simpa [TRep, Has] using tx) hr
              | full => exact plainCase (Handed.refl h) (rep_content_full (by simpa [TRep, Has] using tx)).2 hr
              | of _ _ _ _ => exact absurd rfl (hno1 _ _ _ _)
              | ofg _ _ _ _ => exact absurd rfl (hno2 _ _ _ _)
        · simp at hr
      · simp at hr
    · simp at hr
  · simp at hr

theorem fits_iada {o : Oper} {x i : Operand} {T e s len : Nat} (ho : o.op = .indexAddr T x i) (hu : P.underlying T = some (.array len e)) (hs : SizeIs P e s) {d : Dst} {rx ri : Ref}
    (hd : chkDstO slots n o.dst d = true) (hx : chkRef slots x rx = true) (hi : chkRef slots i ri = true) : OpFits P CS RP slots n o (.iada d len s rx ri) := by
  intro M st a st' h hn hr next Q K
  simp only [runOp] at hr
  obtain ⟨kx, tx⟩ := rd_trep h hx
  obtain ⟨ki, ti⟩ := rd_trep h hi
  split at hr
  · rename_i j off k i' hl hj
    rw [hl] at tx
    rw [hj] at ti
    split at hr
    · rename_i h0
      split at hr
      · rename_i hlt
        simp only [TRep] at tx
        obtain ⟨b, cs, h1, h2, h3⟩ := tx
        have hrun : (execOp a.eval o).run P M.w = .ok (.value (.pointer (some ⟨b, off + i'.toNat * s, none⟩))) M.w := by
          simp only [execOp, ho, ti.int, h3, Sem.run_bind, Instr.indexAt, asIntOf, Instr.sureAddr, Sem.run_pure, Result.andThen_ok, run_underlying hu]
          have : 0 ≤ i' ∧ i' < (len : Int) := ⟨h0, by omega⟩
          simp only [this, and_self, if_true, Sem.run_bind, run_sizeOf' hs, Result.andThen_ok, Sem.run_pure, addr_add]
        rw [hrun]
        refine value_pure (av := .lptr j (off + i'.toNat * s)) h hd ?_ hr rfl K
        simp only [TRep]
        exact ⟨b, cs, h1, h2, rfl⟩
      · simp at hr
    · simp at hr
  · simp at hr

theorem fits_fad {o : Oper} {x : Operand} {T f off : Nat} {fs : Array Field} {fd : Field} (ho : o.op = .fieldAddr T x f) (hu : P.underlying T = some (.struct fs)) (hf : fs[f]? = some fd) (hoff : fd.offset = off)
    (hs : ∃ s, SizeIs P fd.type s ∧ s ≠ 0) {d : Dst} {rx : Ref} (hd : chkDstO slots n o.dst d = true) (hx : chkRef slots x rx = true) : OpFits P CS RP slots n o (.fad d off rx) := by
  intro M st a st' h hn hr next Q K
  simp only [runOp] at hr
  obtain ⟨kx, tx⟩ := rd_trep h hx
  obtain ⟨s, hs, hs0⟩ := hs
  have hrun : ∀ {b p : Nat}, a.eval x = .pointer (some ⟨b, p, none⟩) → (execOp a.eval o).run P M.w = .ok (.value (.pointer (some ⟨b, p + off, none⟩))) M.w := by
    intro b p hv
    simp only [execOp, ho, hv, Sem.run_bind, Instr.fieldAt, run_underlying hu, Result.andThen_ok, hf, Instr.sureAddr, Sem.run_pure, fieldPlace, run_sizeOf' hs]
    rw [if_neg hs0]
    simp [addr_add, hoff]
  split at hr
  · rename_i j o' hl
    rw [hl] at tx
    simp only [TRep] at tx
    obtain ⟨b, cs, h1, h2, h3⟩ := tx
    rw [hrun h3]
    refine value_pure (av := .lptr j (o' + off)) h hd ?_ hr rfl K
    simp only [TRep]
    exact ⟨b, cs, h1, h2, rfl⟩
  · rename_i ow s' xs i o' hl
    rw [hl] at tx
    cases ow with
    | none =>
      simp only [TRep, Has, RepV, Rep, List.cons.injEq, and_true] at tx
      obtain ⟨b, p, h1, h2, h3, h4⟩ := tx
      rw [hrun h1]
      refine value_pure (av := .eptr .none s' xs i (o' + off)) h hd (rep_trep rfl ?_) hr rfl K
      simp only [RepV, Rep]
      exact ⟨b, p, by simp [Nat.add_assoc], h2, h3, h4⟩
    | of j off' vo m =>
      simp only [TRep] at tx
      obtain ⟨ys, b, p, C, h1, h2, h3, h4, h5⟩ := tx
      rw [hrun h5]
      refine value_pure (av := .eptr (.of j off' vo m) s' xs i (o' + off)) h hd ?_ hr rfl K
      simp only [TRep]
      exact ⟨ys, b, p, C, h1, h2, h3, h4, by simp [Nat.add_assoc]⟩
    | ofg j off' vo m =>
      simp only [TRep] at tx
      obtain ⟨ys, b, p, C, h1, h2, h3, h4, h5⟩ := tx
      rw [hrun h5]
      refine value_pure (av := .eptr (.ofg j off' vo m) s' xs i (o' + off)) h hd ?_ hr rfl K
      simp only [TRep]
      exact ⟨ys, b, p, C, h1, h2, h3, h4, by simp [Nat.add_assoc]⟩
    | full => simp [TRep, Has, RepV, Rep] at tx
    | own m => simp [TRep, Has, RepV, Rep] at tx
  · simp at hr

end
end Go.VS
/- Operations: loads; pieces of strings and slices. -/
set_option linter.unusedVariables false
namespace Go.VS

def isAggD : TypeDesc → Bool
  | .struct _ | .array _ _ => true
  | _ => false

/-- What a load or a store of a type is of: one cell; so many of a struct's or an array's. -/
def KindIs (P : Program) (t : TypeId) : Option Nat → Prop
  | none => (∃ d, P.underlying t = some d ∧ isAggD d = false) ∧ SizeIs P t 1
  | some k => (∃ d, P.underlying t = some d ∧ isAggD d = true) ∧ SizeIs P t k

section
variable {P : Program} {CS : CallSem} {RP : FuncId → Option (List AV → Option AV)} {slots : List Nat} {n : Nat} {M : Mem} {st : St} {a : Act}

theorem run_isAgg' {t : TypeId} {d : TypeDesc} (h : P.underlying t = some d) (w : World) : (isAgg t).run P w = .ok (isAggD d) w := by
  unfold isAgg
  rw [Sem.run_bind, run_underlying h]
  cases d <;> rfl

theorem loadVar_one {t : TypeId} (h : KindIs P t none) {w : World} {b o : Nat} {v : Value} (hv : cellAt w b o = some v) : (loadVar t ⟨b, o, none⟩).run P w = .ok v w := by
  obtain ⟨⟨d, hd, ha⟩, _⟩ := h
  unfold loadVar
  rw [Sem.run_bind, run_isAgg' hd, ha]
  have hc : w.cell? ⟨b, o, none⟩ = some v := hv
  simp [hc]

theorem loadVar_agg {t k : Nat} (h : KindIs P t (some k)) {w : World} {b o : Nat} {vs : List Value} (hl : vs.length = k) (hA : At w b o vs) : (loadVar t ⟨b, o, none⟩).run P w = .ok (.agg vs.toArray) w := by
  obtain ⟨⟨d, hd, ha⟩, hs⟩ := h
  unfold loadVar
  rw [Sem.run_bind, run_isAgg' hd, ha]
  simp only [Result.andThen_ok, if_true, Sem.run_bind, run_sizeOf' hs]
  subst hl
  rw [run_loadCells_list w ⟨b, o, none⟩ vs (fun j v hj => by rw [addr_add]; exact hA.get hj)]
  rfl

theorem At.sub {w : World} {b : Nat} : ∀ {vs : List Value} {o : Nat}, At w b o vs → ∀ i k, At w b (o + i) ((vs.drop i).take k)
  | vs, o, h, 0, 0 => trivial
  | [], o, h, 0, k + 1 => trivial
  | v :: vs, o, h, 0, k + 1 => by
    refine ⟨h.1, ?_⟩
    have := At.sub h.2 0 k
    simpa using this
  | [], o, h, i + 1, k => by simp [At]
  | v :: vs, o, h, i + 1, k => by
    have := At.sub h.2 i k
    rw [show o + (i + 1) = o + 1 + i by omega]
    simpa using this

theorem Reps.length {S : Cells} {G : Lay} {w : World} : ∀ {cs : List AV} {vs : List Value}, Reps S G w cs vs → vs.length = cs.length
  | [], _, h => by simp only [Reps] at h; subst h; rfl
  | c :: cs, _, h => by
    simp only [Reps] at h
    obtain ⟨v, r, rfl, _, _, _, hr⟩ := h
    simp [hr.length]

theorem Reps.get {S : Cells} {G : Lay} {w : World} : ∀ {cs : List AV} {vs : List Value}, Reps S G w cs vs → ∀ {k : Nat} {c : AV}, cs[k]? = some c → ∃ v, vs[k]? = some v ∧ v.cells = #[v] ∧ oneCell c = true ∧ Rep S G w c [v]
  | [], _, _, _, _, h => by simp at h
  | c :: cs, _, h, 0, c', hk => by
    simp only [Reps] at h
    obtain ⟨v, r, rfl, h1, h0, h2, _⟩ := h
    simp at hk
    subst hk
    exact ⟨v, rfl, h1, h0, h2⟩
  | c :: cs, _, h, k + 1, c', hk => by
    simp only [Reps] at h
    obtain ⟨v, r, rfl, _, _, _, hr⟩ := h
    simpa using hr.get (by simpa using hk)

theorem Reps.sub {S : Cells} {G : Lay} {w : World} : ∀ {cs : List AV} {vs : List Value}, Reps S G w cs vs → ∀ i k, Reps S G w ((cs.drop i).take k) ((vs.drop i).take k)
  | cs, vs, h, 0, 0 => by simp [Reps]
  | [], _, h, i, k => by simp only [Reps] at h; subst h; simp [Reps]
  | c :: cs, _, h, 0, k + 1 => by
    simp only [Reps] at h
    obtain ⟨v, r, rfl, h1, h0, h2, hr⟩ := h
    have := hr.sub 0 k
    simp only [List.drop_zero, List.take_succ_cons, Reps] at this ⊢
    exact ⟨v, _, rfl, h1, h0, h2, this⟩
  | c :: cs, _, h, i + 1, k => by
    simp only [Reps] at h
    obtain ⟨v, r, rfl, _, _, _, hr⟩ := h
    simpa using hr.sub i k

/-- A value of one cell, by its cells. -/
theorem rep_one {S : Cells} {G : Lay} {w : World} {x : AV} {vs : List Value} (h1 : oneCell x = true) (hu : x ≠ .undef) (h : Rep S G w x vs) : ∃ v, vs = [v] ∧ v.cells = #[v] ∧ RepV S G w x v := by
  cases x with
  | undef => exact absurd rfl hu
  | agg cs => simp [oneCell] at h1
  | lptr _ _ => simp [Rep] at h
  | lbox _ => simp [Rep] at h
  | tup _ => simp [Rep] at h
  | bool b => simp only [Rep] at h; exact ⟨_, h, rfl, by simp [RepV, Rep]⟩
  | int k i => simp only [Rep] at h; exact ⟨_, h, rfl, by simp [RepV, Rep]⟩
  | flt k i => simp only [Rep] at h; exact ⟨_, h, rfl, by simp [RepV, Rep]⟩
  | cpx k i j => simp only [Rep] at h; exact ⟨_, h, rfl, by simp [RepV, Rep]⟩
  | str l => simp only [Rep] at h; exact ⟨_, h, rfl, by simp [RepV, Rep]⟩
  | nilptr => simp only [Rep] at h; exact ⟨_, h, rfl, by simp [RepV, Rep]⟩
  | ptr id off =>
    have h' := h
    simp only [Rep] at h
    obtain ⟨b, _, rfl⟩ := h
    exact ⟨_, rfl, rfl, h'⟩
  | eptr ow s xs i off =>
    have h' := h
    cases ow <;> simp only [Rep] at h
    obtain ⟨b, o, rfl, _⟩ := h
    exact ⟨_, rfl, rfl, h'⟩
  | sl ow s xs =>
    have h' := h
    cases ow <;> simp only [Rep] at h
    · rcases h with ⟨rfl, _⟩ | ⟨b, o, cap, rfl, _⟩
      · exact ⟨_, rfl, rfl, h'⟩
      · exact ⟨_, rfl, rfl, h'⟩
    · rcases h with ⟨rfl, _⟩ | ⟨b, o, rfl, _⟩
      · exact ⟨_, rfl, rfl, h'⟩
      · exact ⟨_, rfl, rfl, h'⟩
  | map id =>
    have h' := h
    cases id <;> simp only [Rep] at h
    · subst h; exact ⟨_, rfl, rfl, h'⟩
    · obtain ⟨b, _, rfl⟩ := h; exact ⟨_, rfl, rfl, h'⟩
  | func f caps =>
    have h' := h
    simp only [Rep] at h
    obtain ⟨c, rfl, _⟩ := h
    exact ⟨_, rfl, rfl, h'⟩
  | nilfunc => simp only [Rep] at h; exact ⟨_, h, rfl, by simp [RepV, Rep]⟩
  | seq f s xs =>
    have h' := h
    simp only [Rep] at h
    obtain ⟨b, sv, rfl, _⟩ := h
    exact ⟨_, rfl, rfl, h'⟩
  | iface t x =>
    have h' := h
    simp only [Rep] at h
    obtain ⟨v, rfl, _⟩ := h
    exact ⟨_, rfl, rfl, h'⟩
  | nilif => simp only [Rep] at h; exact ⟨_, h, rfl, by simp [RepV, Rep]⟩

theorem repV_of {S : Cells} {G : Lay} {w : World} {x : AV} {v : Value} (h1 : oneCell x = true) (h : Rep S G w x [v]) : RepV S G w x v := by
  cases x <;> simp_all [oneCell, RepV]

theorem rep_of {S : Cells} {G : Lay} {w : World} {x : AV} {v : Value} (h1 : oneCell x = true) (h2 : plain x = true) (h : RepV S G w x v) : Rep S G w x [v] := by
  cases x <;> simp_all [oneCell, RepV, plain]

/-- An element's part is read. -/
theorem part_load {T : TypeId} {sz : Option Nat} (hk : KindIs P T sz) {S : Cells} {G : Lay} {w : World} {b o off : Nat} {e x : AV} {vs : List Value} (hA : At w b o vs) (hR : Rep S G w e vs)
    (hp : partOf e off sz = some x) : ∃ v, (loadVar T ⟨b, o + off, none⟩).run P w = .ok v w ∧ RepV S G w x v ∧ (plain x = true ∨ x = .undef) := by
  by_cases hu : e = .undef
  · subst hu; simp [partOf] at hp
  have hcells : Reps S G w (cellsOf e) vs := by
    by_cases h1 : oneCell e = true
    · obtain ⟨v, rfl, hc, hr⟩ := rep_one h1 hu hR
      have : cellsOf e = [e] := by cases e <;> simp_all [oneCell, cellsOf]
      rw [this]
      simp only [Reps]
      exact ⟨v, [], rfl, hc, h1, hR, rfl⟩
    · cases e <;> simp_all [oneCell, cellsOf, Rep]
  cases sz with
  | none =>
    have hp' : (match (cellsOf e)[off]? with | some c => if oneCell c then some c else none | none => none) = some x := by
      cases e <;> first | exact absurd rfl hu | exact hp
    split at hp'
    · rename_i c hc
      split at hp'
      · rename_i h1
        simp only [Option.some.injEq] at hp'
        subst hp'
        obtain ⟨v, hv, hcell, _, hr⟩ := hcells.get hc
        refine ⟨v, loadVar_one hk (hA.get hv), repV_of h1 hr, ?_⟩
        cases c with
        | sl ow s xs => cases ow <;> first | (simp [Rep] at hr; done) | simp [plain]
        | eptr ow s xs i off' => cases ow <;> first | (simp [Rep] at hr; done) | simp [plain]
        | undef => exact .inr rfl
        | _ => first | (simp [Rep] at hr; done) | simp [plain]
      · simp at hp'
    · simp at hp'
  | some k =>
    have hp' : (if off + k ≤ (cellsOf e).length then some (AV.agg (((cellsOf e).drop off).take k)) else none) = some x := by
      cases e <;> first | exact absurd rfl hu | exact hp
    split at hp'
    · rename_i hle
      simp only [Option.some.injEq] at hp'
      subst hp'
      have hl := hcells.length
      refine ⟨.agg ((vs.drop off).take k).toArray, loadVar_agg hk (by simp; omega) (hA.sub off k), ?_, .inl rfl⟩
      exact ⟨_, rfl, by simpa using hcells.sub off k⟩
    · simp at hp'

theorem put_undef_plain {x : AV} (h : plain x = true ∨ x = .undef) {vars : List AV} {store : List Obj} {vv : Nat → Value} {kt : Nat → Key} {v : Value} (hr : RepV M.S M.G M.w x v) : TRep M vars store vv kt x v := by
  rcases h with h | h
  · exact rep_trep h hr
  · subst h; simp [TRep, Has, RepV]

theorem wholes_rep {ck : Nat → Key} : ∀ {cs l : List AV} {c : List Value} {i : Nat}, wholes cs = some l → (∀ k x, cs[k]? = some x → ∃ v, c[k]? = some v ∧ v.cells = #[v] ∧ Has M (ck (i + k)) x v) → c.length = cs.length →
    Reps M.S M.G M.w l c
  | [], l, c, i, h, hx, hl => by
    simp only [wholes, Option.some.injEq] at h
    subst h
    have : c = [] := List.length_eq_zero_iff.1 hl
    subst this
    simp [Reps]
  | x :: cs, l, [], i, h, hx, hl => by simp at hl
  | x :: cs, l, v :: c, i, h, hx, hl => by
    simp only [wholes] at h
    split at h
    · rename_i y r h1 h2
      simp only [Option.some.injEq] at h
      subst h
      obtain ⟨u, hu, hc, hh⟩ := hx 0 x (by simp)
      simp at hu
      subst hu
      have hrest := wholes_rep (i := i + 1) h2 (fun k y hk => by
        have := hx (k + 1) y (by simpa using hk)
        rw [show i + 1 + k = i + (k + 1) by omega]
        simpa using this) (by simpa using hl)
      simp only [Reps]
      refine ⟨v, c, rfl, hc, ?_, ?_, hrest⟩
      · unfold cellWhole at h1
        split at h1
        · split at h1
          · simp at h1
          · simp only [Option.some.injEq] at h1; subst h1; rfl
        · split at h1
          · rename_i hp
            simp only [Option.some.injEq] at h1; subst h1
            simp only [Bool.and_eq_true] at hp; exact hp.2
          · simp at h1
      unfold cellWhole at h1
      split at h1
      · rename_i m s xs
        cases m with
        | true => simp at h1
        | false =>
          simp only [Bool.false_eq_true, if_false, Option.some.injEq] at h1
          subst h1
          exact own_none (show OwnArr M (ck (i + 0)) false s xs v from hh)
      · split at h1
        · rename_i hne hp
          simp only [Option.some.injEq] at h1
          subst h1
          simp only [Bool.and_eq_true] at hp
          have hr : RepV M.S M.G M.w x v := by
            unfold Has at hh
            split at hh
            · exact absurd rfl (hne _ _ _)
            · exact hh
          exact rep_of hp.2 hp.1 hr
        · simp at h1
    · simp at h

theorem fits_ld {o : Oper} {x : Operand} {T : TypeId} {sz : Option Nat} (ho : o.op = .load T x) (hk : KindIs P T sz) {d : Dst} {rx : Ref} (hd : chkDstO slots n o.dst d = true)
    (hx : chkRef slots x rx = true) : OpFits P CS RP slots n o (.ld d sz rx) := by
  intro M st a st' h hn hr next Q K
  simp only [runOp, runLd] at hr
  obtain ⟨kx, tx⟩ := rd_trep h hx
  have hrun : ∀ {b p : Nat} {v : Value}, a.eval x = .pointer (some ⟨b, p, none⟩) → (loadVar T ⟨b, p, none⟩).run P M.w = .ok v M.w → (execOp a.eval o).run P M.w = .ok (.value v) M.w := by
    intro b p v hv hl
    simp only [execOp, ho, hv, Sem.run_bind, Instr.loadAt, Instr.sureAddr, Sem.run_pure, Result.andThen_ok, hl]
  split at hr
  · rename_i ow s xs i off hl
    rw [hl] at tx
    split at hr
    · rename_i e he
      split at hr
      · rename_i y hy
        have elem : ∀ {b p : Nat}, Els M.S M.G M.w b s p xs → a.eval x = .pointer (some ⟨b, p + i * s + off, none⟩) → o.upon P a next Q ((execOp a.eval o).run P M.w) := by
          intro b p hE hv
          obtain ⟨vs, _, hA, hR⟩ := hE.get he
          obtain ⟨v, h1, h2, h3⟩ := part_load hk hA hR hy
          rw [hrun hv h1]
          exact value_pure h hd (put_undef_plain h3 h2) hr rfl K
        cases ow with
        | none =>
          simp only [TRep, Has, RepV, Rep, List.cons.injEq, and_true] at tx
          obtain ⟨b, p, h1, h2, h3, h4⟩ := tx
          exact elem h4 h1
        | of j off' vo m =>
          simp only [TRep] at tx
          obtain ⟨ys, b, p, C, h1, h2, h3, h4, h5⟩ := tx
          rcases (h.owner_arr h1).content with ⟨_, e⟩ | ⟨b', p', C', e, _, hE⟩
          · simp at e
          · simp only [Value.slice.injEq, Option.some.injEq, Addr.mk.injEq, and_true, true_and] at e
            obtain ⟨⟨rfl, rfl⟩, rfl⟩ := e
            refine elem (b := b) (p := p + vo * s) ?_ (by rw [h5]; simp [Nat.add_mul, Nat.add_assoc])
            rw [h3]
            exact hE.sub vo xs.length
        | ofg j off' vo m =>
          simp only [TRep] at tx
          obtain ⟨ys, b, p, C, h1, h2, h3, h4, h5⟩ := tx
          rcases (h.gowner_arr h1).content with ⟨_, e⟩ | ⟨b', p', C', e, _, hE⟩
          · simp at e
          · simp only [Value.slice.injEq, Option.some.injEq, Addr.mk.injEq, and_true, true_and] at e
            obtain ⟨⟨rfl, rfl⟩, rfl⟩ := e
            refine elem (b := b) (p := p + vo * s) ?_ (by rw [h5]; simp [Nat.add_mul, Nat.add_assoc])
            rw [h3]
            exact hE.sub vo xs.length
        | full => simp [TRep, Has, RepV, Rep] at tx
        | own m => simp [TRep, Has, RepV, Rep] at tx
      · simp at hr
    · simp at hr
  · rename_i i off hl
    rw [hl] at tx
    simp only [TRep] at tx
    obtain ⟨b, cs, h1, h2, h3⟩ := tx
    rw [h1] at hr
    simp only at hr
    have hil : i < slots.length := by
      have := (List.getElem?_eq_some_iff.1 h1).1; rw [h.len] at this; exact this
    have hv := h.vars i slots[i] _ (List.getElem?_eq_getElem hil) h1
    simp only [VRep, LBox] at hv
    obtain ⟨b', e1, e2, e3, c, et, fr, e4, e5, e6, e7⟩ := hv
    have : b' = b := by
      have : vvOf slots n a i = a.tmps.getD slots[i] undef := by simp [vvOf, List.getD_eq_getElem?_getD, hil]
      rw [this, e1] at h2
      simpa using h2
    subst this
    have hcell : ∀ k v, c[k]? = some v → cellAt M.w b' k = some v := by
      intro k v hkv
      simp [cellAt, World.cell?, e4, hkv]
    split at hr
    · split at hr
      · rename_i cv hcv
        obtain ⟨v, hv1, hv2, hv3⟩ := e7 off cv hcv
        rw [hrun h3 (loadVar_one hk (hcell _ _ hv1))]
        refine value_pure h hd ?_ hr rfl K
        unfold cellView
        split
        · rename_i m s xs
          simp only [TRep]
          exact ⟨xs, v, .inr ⟨off, cs, b', rfl, h1, hcv, h2, hcell _ _ hv1⟩, .inl ⟨rfl, rfl, rfl⟩⟩
        · rename_i hne
          have hr' : RepV M.S M.G M.w cv v := by
            unfold Has at hv3
            split at hv3
            · exact absurd rfl (hne _ _ _)
            · exact hv3
          have : ∀ ow s xs, cv = .sl ow s xs → ow = .none ∨ ow = .full := by
            intro ow s xs e
            subst e
            cases ow <;> simp_all [RepV, Rep]
          unfold TRep Has
          split
          · simp [RepV, Rep] at hr'
          · rcases this _ _ _ rfl with e | e <;> simp at e
          · rcases this _ _ _ rfl with e | e <;> simp at e
          · simp [RepV, Rep] at hr'
          · simp [RepV, Rep] at hr'
          · simp [RepV, Rep] at hr'
          · split
            · exact absurd rfl (hne _ _ _)
            · exact hr'
      · simp at hr
    · rename_i k
      split at hr
      · rename_i hle
        split at hr
        · rename_i l hl'
          have hA : At M.w b' off ((c.toList.drop off).take k) := by
            have key : ∀ (vs : List Value) (p : Nat), (∀ j v, vs[j]? = some v → cellAt M.w b' (p + j) = some v) → At M.w b' p vs := by
              intro vs
              induction vs with
              | nil => intro p _; trivial
              | cons v vs ih =>
                intro p hj
                refine ⟨by simpa using hj 0 v (by simp), ih (p + 1) (fun j u hu => ?_)⟩
                have := hj (j + 1) u (by simpa using hu)
                rwa [show p + 1 + j = p + (j + 1) by omega]
            refine key _ _ (fun j v hj => hcell _ _ ?_)
            rw [List.getElem?_take] at hj
            split at hj
            · rw [List.getElem?_drop] at hj
              simpa using hj
            · simp at hj
          have hlen : ((c.toList.drop off).take k).length = k := by simp; omega
          rw [hrun h3 (loadVar_agg hk hlen hA)]
          refine value_pure h hd (rep_trep (av := .agg l) rfl ⟨_, rfl, ?_⟩) hr rfl K
          refine wholes_rep (ck := fun q => .v i (q + 1)) (i := off) hl' (fun q x hq => ?_) (by simp; omega)
          rw [List.getElem?_take] at hq
          split at hq
          · rename_i hqk
            rw [List.getElem?_drop] at hq
            obtain ⟨v, hv1, hv2, hv3⟩ := e7 _ _ hq
            refine ⟨v, ?_, hv2, hv3⟩
            rw [List.getElem?_take, if_pos hqk, List.getElem?_drop]
            simpa using hv1
          · simp at hq
        · simp at hr
      · simp at hr
  · simp at hr

end
end Go.VS
