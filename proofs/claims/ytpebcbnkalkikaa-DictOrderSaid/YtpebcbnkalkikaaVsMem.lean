/- The ghost beside a world: which blocks are owned, by what; which cells stay. What a frame's abstract slots say of its slots. -/
import Derived.Test.YtpebcbnkalkikaaVsMono
namespace Go.VS

/-- What may own a block: variable i (its array; its box's k-th cell is k + 1), a temporary, a result, a variable's box, an object's cell, an object, a map. -/
inductive Key where
  | v (i k : Nat)
  | t (x k : Nat)
  | r (k : Nat)
  | lb (i : Nat)
  | g (id k : Nat)
  | gb (id : Nat)
  | mp (id : Nat)
  deriving DecidableEq

def Key.isG : Key → Bool
  | .g _ _ | .gb _ | .mp _ => true
  | _ => false

structure Mem where
  own : Nat → Option Key
  S : Cells
  G : Lay
  w : World

structure Mem.Wf (M : Mem) : Prop where
  sdom : ∀ b j, M.S b j → (cellAt M.w b j).isSome = true
  odom : ∀ b k, M.own b = some k → b < M.w.heap.size
  gown : ∀ id b, M.G id = some b → M.own b = some (.gb id) ∨ M.own b = some (.mp id)

theorem cellAt_lt {w : World} {b j : Nat} (h : (cellAt w b j).isSome = true) : b < w.heap.size := by
  unfold cellAt World.cell? at h
  rcases Nat.lt_or_ge b w.heap.size with hb | hb
  · exact hb
  · simp [Array.getElem?_eq_none hb] at h

theorem Mem.Wf.slt {M : Mem} (h : M.Wf) {b j : Nat} (hs : M.S b j) : b < M.w.heap.size := cellAt_lt (h.sdom b j hs)

/-- A block of cells with at least n, none of them frozen. -/
def Room (w : World) (b n : Nat) : Prop :=
  ∃ c e fr, w.heap[b]? = some (.cells c e fr) ∧ n ≤ c.size ∧ ∀ j, j < c.size → (decide (fr.1 ≤ j) && decide (j < fr.2)) = false

/-- What key owns: an array whose elements are xs. -/
def OwnArr (M : Mem) (key : Key) (m : Bool) (s : Nat) (xs : List AV) (v : Value) : Prop :=
  (xs = [] ∧ (v = .slice none 0 0 ∨ ∃ b o, v = .slice (some ⟨b, o, none⟩) 0 0)) ∨
  (xs ≠ [] ∧ ∃ b o cap, v = .slice (some ⟨b, o, none⟩) xs.length cap ∧ M.own b = some key ∧ xs.length ≤ cap ∧
    Els M.S M.G M.w b s o xs ∧ Room M.w b (o + cap * s) ∧
    (m = true → ∀ j, ¬ M.S b j) ∧
    (m = false → (∀ j, j < xs.length * s → M.S b (o + j)) ∧ ∀ j, o + xs.length * s ≤ j → ¬ M.S b j))

/-- A value in a place that may own. -/
def Has (M : Mem) (key : Key) : AV → Value → Prop
  | .sl (.own m) s xs, v => OwnArr M key m s xs v
  | x, v => RepV M.S M.G M.w x v

/-- A block whose cells are just cs. -/
def CellsAre (M : Mem) (ck : Nat → Key) (b : Nat) (cs : List AV) : Prop :=
  ∃ c e fr, M.w.heap[b]? = some (.cells c e fr) ∧ c.size = cs.length ∧ (∀ j, j < c.size → (decide (fr.1 ≤ j) && decide (j < fr.2)) = false) ∧
    ∀ k x, cs[k]? = some x → ∃ v, c[k]? = some v ∧ v.cells = #[v] ∧ Has M (ck k) x v

def LBox (M : Mem) (bk : Key) (ck : Nat → Key) (cs : List AV) (v : Value) : Prop :=
  ∃ b, v = .pointer (some ⟨b, 0, none⟩) ∧ M.own b = some bk ∧ (∀ j, ¬ M.S b j) ∧ CellsAre M ck b cs

def TupRep (M : Mem) (ck : Nat → Key) (vs : List AV) (v : Value) : Prop :=
  ∃ a : Array Value, v = .tuple a ∧ a.size = vs.length ∧ ∀ k x, vs[k]? = some x → ∃ u, a[k]? = some u ∧ Has M (ck k) x u

/-- What variable i says. -/
def VRep (M : Mem) (i : Nat) : AV → Value → Prop
  | .lbox cs, v => LBox M (.lb i) (fun k => .v i (k + 1)) cs v
  | x, v => Has M (.v i 0) x v

/-- Variable i (off: 0) or a cell of its box owns ys, and its value is v. -/
def Owner (M : Mem) (vars : List AV) (vv : Nat → Value) (i off : Nat) (m : Bool) (s : Nat) (ys : List AV) (v : Value) : Prop :=
  (off = 0 ∧ vars[i]? = some (.sl (.own m) s ys) ∧ v = vv i) ∨
  (∃ k cs b, off = k + 1 ∧ vars[i]? = some (.lbox cs) ∧ cs[k]? = some (.sl (.own m) s ys) ∧ vv i = .pointer (some ⟨b, 0, none⟩) ∧ cellAt M.w b k = some v)

/-- A view, from element vo on, of an array of ys that is the value v0. -/
def View (s : Nat) (ys : List AV) (v0 : Value) (vo : Nat) (xs : List AV) (v : Value) : Prop :=
  (vo = 0 ∧ xs = ys ∧ v = v0) ∨ (xs = [] ∧ (v = .slice none 0 0 ∨ ∃ b o cap, v = .slice (some ⟨b, o, none⟩) 0 cap ∧ (ys = [] → cap = 0))) ∨
  (∃ b o C cap, v0 = .slice (some ⟨b, o, none⟩) ys.length C ∧ vo + xs.length ≤ ys.length ∧ xs = (ys.drop vo).take xs.length ∧
    v = .slice (some ⟨b, o + vo * s, none⟩) xs.length cap ∧ xs.length ≤ cap ∧ cap ≤ C)

inductive Obj where
  | cells (cs : List AV)
  | map (es : List (AV × AV))
  | gone
  deriving Inhabited

/-- The same of an object's cell. -/
def GOwner (M : Mem) (store : List Obj) (id off : Nat) (m : Bool) (s : Nat) (ys : List AV) (v : Value) : Prop :=
  ∃ cs b, store[id]? = some (.cells cs) ∧ cs[off]? = some (.sl (.own m) s ys) ∧ M.G id = some b ∧ cellAt M.w b off = some v

/-- What a temporary says; kt: its keys. -/
def TRep (M : Mem) (vars : List AV) (store : List Obj) (vv : Nat → Value) (kt : Nat → Key) : AV → Value → Prop
  | .tup vs, v => TupRep M (fun k => kt (k + 1)) vs v
  | .sl (.of i off vo m) s xs, v => ∃ ys v0, Owner M vars vv i off m s ys v0 ∧ View s ys v0 vo xs v
  | .sl (.ofg id off vo m) s xs, v => ∃ ys v0, GOwner M store id off m s ys v0 ∧ View s ys v0 vo xs v
  | .eptr (.of i off vo m) s xs j o, v => ∃ ys b p C, Owner M vars vv i off m s ys (.slice (some ⟨b, p, none⟩) ys.length C) ∧
      vo + xs.length ≤ ys.length ∧ xs = (ys.drop vo).take xs.length ∧ j < xs.length ∧ v = .pointer (some ⟨b, p + (vo + j) * s + o, none⟩)
  | .eptr (.ofg id off vo m) s xs j o, v => ∃ ys b p C, GOwner M store id off m s ys (.slice (some ⟨b, p, none⟩) ys.length C) ∧
      vo + xs.length ≤ ys.length ∧ xs = (ys.drop vo).take xs.length ∧ j < xs.length ∧ v = .pointer (some ⟨b, p + (vo + j) * s + o, none⟩)
  | .lptr i off, v => ∃ b cs, vars[i]? = some (.lbox cs) ∧ vv i = .pointer (some ⟨b, 0, none⟩) ∧ v = .pointer (some ⟨b, off, none⟩)
  | x', v => Has M (kt 0) x' v

/-- A map's entries, in the order in which they came. -/
def Entries (M : Mem) (id : Nat) : Nat → List (AV × AV) → List MapEntry → Prop
  | _, [], es => es = []
  | n, (k, x) :: r, es => ∃ e t, es = e :: t ∧ RepV M.S M.G M.w k e.key ∧ Has M (.g id n) x e.val ∧ Entries M id (n + 1) r t

def ObjRep (M : Mem) (id : Nat) : Obj → Prop
  | .cells cs => ∃ b, M.G id = some b ∧ M.own b = some (.gb id) ∧ (∀ j, ¬ M.S b j) ∧ CellsAre M (fun k => .g id k) b cs
  | .map es => ∃ b l clock, M.G id = some b ∧ M.own b = some (.mp id) ∧ M.w.heap[b]? = some (.map l clock) ∧
      (∀ e ∈ l.toList, e.born < clock) ∧ (l.toList.map (·.born)).Nodup ∧ Entries M id 0 es l.toList
  | .gone => True

def StoreRep (M : Mem) (store : List Obj) : Prop := (∀ id o, store[id]? = some o → ObjRep M id o) ∧ ∀ id b, M.G id = some b → id < store.length

structure St where
  vars : List AV
  tmps : List (Nat × AV)
  store : List Obj
  deriving Inhabited

def look (x : Nat) : List (Nat × AV) → AV
  | [] => .undef
  | (y, v) :: r => if x = y then v else look x r

/-- What the abstract state says of a frame. -/
structure FR (M : Mem) (slots : List Nat) (n : Nat) (st : St) (a : Act) : Prop where
  wf : M.Wf
  size : a.tmps.size = n
  defers : a.defers = []
  len : st.vars.length = slots.length
  nodup : slots.Nodup
  lt : ∀ x ∈ slots, x < n
  vars : ∀ i x av, slots[i]? = some x → st.vars[i]? = some av → VRep M i av (a.tmps.getD x undef)
  tmps : ∀ x, x ∉ slots → TRep M st.vars st.store (fun i => a.tmps.getD (slots.getD i n) undef) (Key.t x) (look x st.tmps) (a.tmps.getD x undef)
  store : StoreRep M st.store

/-- From M on M' is come to. -/
structure Evo (M M' : Mem) : Prop where
  grow : Grow M.S M.G M.w M'.S M'.G M'.w
  size : M.w.heap.size ≤ M'.w.heap.size
  os : M'.w.os = M.w.os
  tape : M'.w.tape = M.w.tape
  output : M'.w.output = M.w.output
  same : ∀ b, b < M.w.heap.size → M.own b = none → M'.w.heap[b]? = M.w.heap[b]?
  acq : ∀ b, b < M.w.heap.size → M.own b = none → M'.own b = none
  snew : ∀ b j, M'.S b j → M.S b j ∨ M.w.heap.size ≤ b ∨ M.own b ≠ none

theorem Evo.refl (M : Mem) : Evo M M := ⟨Grow.refl _ _ _, Nat.le_refl _, rfl, rfl, rfl, fun _ _ _ => rfl, fun _ _ h => h, fun _ _ h => .inl h⟩

theorem Evo.trans {A B C : Mem} (h : Evo A B) (k : Evo B C) : Evo A C where
  grow := h.grow.trans k.grow
  size := Nat.le_trans h.size k.size
  os := k.os.trans h.os
  tape := k.tape.trans h.tape
  output := k.output.trans h.output
  same b hb ho := (k.same b (Nat.lt_of_lt_of_le hb h.size) (h.acq b hb ho)).trans (h.same b hb ho)
  acq b hb ho := k.acq b (Nat.lt_of_lt_of_le hb h.size) (h.acq b hb ho)
  snew b j hs := by
    rcases k.snew b j hs with h' | h' | h'
    · exact h.snew b j h'
    · exact .inr (.inl (Nat.le_trans h.size h'))
    · rcases Nat.lt_or_ge b A.w.heap.size with hb | hb
      · refine .inr (.inr fun ho => h' (h.acq b hb ho))
      · exact .inr (.inl hb)

/-- A block that stays as it is, with its owner, and of which no more cells stay for ever. -/
structure Pres (M M' : Mem) (b : Nat) : Prop where
  own : M'.own b = M.own b
  heap : M'.w.heap[b]? = M.w.heap[b]?
  sub : ∀ j, M'.S b j → M.S b j

theorem cellAt_of_heap {w w' : World} {b : Nat} (h : w'.heap[b]? = w.heap[b]?) (j : Nat) : cellAt w' b j = cellAt w b j := by
  simp [cellAt, World.cell?, h]

theorem Room.of_heap {w w' : World} {b n : Nat} (h : w'.heap[b]? = w.heap[b]?) (r : Room w b n) : Room w' b n := by
  obtain ⟨c, e, fr, hc, hr⟩ := r
  exact ⟨c, e, fr, h.trans hc, hr⟩

section
variable {M M' : Mem}
theorem OwnArr.pres {key : Key} {m : Bool} {s : Nat} {xs : List AV} {v : Value} (g : Grow M.S M.G M.w M'.S M'.G M'.w) (hp : ∀ b, M.own b = some key → Pres M M' b)
    (h : OwnArr M key m s xs v) : OwnArr M' key m s xs v := by
  rcases h with h | ⟨hne, b, o, cap, hv, ho, hc, hE, hR, ht, hf⟩
  · exact .inl h
  · have p := hp b ho
    refine .inr ⟨hne, b, o, cap, hv, p.own.trans ho, hc, Els.mono g xs o (fun j _ => cellAt_of_heap p.heap _) hE, hR.of_heap p.heap, fun hm j hs => ht hm j (p.sub j hs), fun hm => ?_⟩
    exact ⟨fun j hj => g.sub _ _ ((hf hm).1 j hj), fun j hj hs => (hf hm).2 j hj (p.sub j hs)⟩

theorem Has.pres {key : Key} {x : AV} {v : Value} (g : Grow M.S M.G M.w M'.S M'.G M'.w) (hp : ∀ b, M.own b = some key → Pres M M' b)
    (h : Has M key x v) : Has M' key x v := by
  unfold Has at *
  split at h
  · exact OwnArr.pres g hp h
  · exact RepV.mono g h

theorem CellsAre.pres {ck : Nat → Key} {b : Nat} {cs : List AV} (g : Grow M.S M.G M.w M'.S M'.G M'.w) (hb : M'.w.heap[b]? = M.w.heap[b]?)
    (hp : ∀ k b, M.own b = some (ck k) → Pres M M' b) (h : CellsAre M ck b cs) : CellsAre M' ck b cs := by
  obtain ⟨c, e, fr, hc, hl, hf, hx⟩ := h
  refine ⟨c, e, fr, hb.trans hc, hl, hf, fun k x hk => ?_⟩
  obtain ⟨v, hv, h1, hh⟩ := hx k x hk
  exact ⟨v, hv, h1, hh.pres g (hp k)⟩

theorem LBox.pres {bk : Key} {ck : Nat → Key} {cs : List AV} {v : Value} (g : Grow M.S M.G M.w M'.S M'.G M'.w)
    (hb : ∀ b, M.own b = some bk → Pres M M' b) (hp : ∀ k b, M.own b = some (ck k) → Pres M M' b) (h : LBox M bk ck cs v) : LBox M' bk ck cs v := by
  obtain ⟨b, hv, ho, hS, hC⟩ := h
  exact ⟨b, hv, (hb b ho).own.trans ho, fun j hj => hS j ((hb b ho).sub j hj), hC.pres g (hb b ho).heap hp⟩

theorem TupRep.pres {ck : Nat → Key} {vs : List AV} {v : Value} (g : Grow M.S M.G M.w M'.S M'.G M'.w)
    (hp : ∀ k b, M.own b = some (ck k) → Pres M M' b) (h : TupRep M ck vs v) : TupRep M' ck vs v := by
  obtain ⟨a, hv, hl, hx⟩ := h
  refine ⟨a, hv, hl, fun k x hk => ?_⟩
  obtain ⟨u, hu, hh⟩ := hx k x hk
  exact ⟨u, hu, hh.pres g (hp k)⟩

/-- The keys of variable i. -/
def Key.ofVar (i : Nat) : Key → Prop
  | .v j _ | .lb j => j = i
  | _ => False
def Key.ofTmp (x : Nat) : Key → Prop
  | .t y _ => y = x
  | _ => False
def Key.ofObj (id : Nat) : Key → Prop
  | .g j _ | .gb j | .mp j => j = id
  | _ => False

theorem VRep.pres {i : Nat} {x : AV} {v : Value} (g : Grow M.S M.G M.w M'.S M'.G M'.w) (hp : ∀ b k, M.own b = some k → k.ofVar i → Pres M M' b)
    (h : VRep M i x v) : VRep M' i x v := by
  unfold VRep at *
  split at h
  · exact h.pres g (fun b hb => hp b _ hb rfl) (fun k b hb => hp b _ hb rfl)
  · exact h.pres g (fun b hb => hp b _ hb rfl)

theorem Entries.pres {id : Nat} (g : Grow M.S M.G M.w M'.S M'.G M'.w) (hp : ∀ b k, M.own b = some k → k.ofObj id → Pres M M' b) :
    ∀ {es : List (AV × AV)} {n : Nat} {l : List MapEntry}, Entries M id n es l → Entries M' id n es l
  | [], _, _, h => h
  | (k, x) :: r, n, l, h => by
    obtain ⟨e, t, hl, hk, hx, hr⟩ := h
    exact ⟨e, t, hl, RepV.mono g hk, hx.pres g (fun b hb => hp b _ hb rfl), Entries.pres g hp hr⟩

theorem ObjRep.pres {id : Nat} {o : Obj} (g : Grow M.S M.G M.w M'.S M'.G M'.w) (hp : ∀ b k, M.own b = some k → k.ofObj id → Pres M M' b)
    (h : ObjRep M id o) : ObjRep M' id o := by
  cases o with
  | cells cs =>
    obtain ⟨b, hG, ho, hS, hC⟩ := h
    have p := hp b _ ho rfl
    exact ⟨b, g.lay _ _ hG, p.own.trans ho, fun j hj => hS j (p.sub j hj), hC.pres g p.heap (fun k b hb => hp b _ hb rfl)⟩
  | map es =>
    obtain ⟨b, l, clock, hG, ho, hh, hb, hn, hE⟩ := h
    have p := hp b _ ho rfl
    exact ⟨b, l, clock, g.lay _ _ hG, p.own.trans ho, p.heap.trans hh, hb, hn, hE.pres g hp⟩
  | gone => trivial
end

end Go.VS
