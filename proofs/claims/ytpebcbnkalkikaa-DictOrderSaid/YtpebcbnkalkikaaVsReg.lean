/- Regions: operations one after the other, guards, orders left open. -/
import Derived.Test.YtpebcbnkalkikaaVsStill
import Derived.OrdersHeld
set_option linter.unusedVariables false
namespace Go.VS

section
variable (P : Program) (CS : CallSem) (RP : FuncId → Option (List AV → Option AV)) (slots : List Nat) (n : Nat) (ops : Array Oper)

def OpFitsG (o : Oper) (op : AOp) : Prop :=
  ∀ M st a st', FR M slots n st a → NoR M → runOp CS RP st op = some st' → ∀ (next : Act → World → Prop) (Q : Exit → Act → World → Prop),
    (∀ M' a', FR M' slots n st' a' → NoR M' → Evo M M' → next a' M'.w) →
    if Region.wanted o (yielded ops a.tmps) then o.wp P a M.w next Q else next (a.put o.dst undef) M.w

def OpStillG (o : Oper) (op : AOp) : Prop :=
  ∀ M st a st', FR M slots n st a → NoR M → runOp CS RP st op = some st' → ∃ v, YieldsIf P ops (fun w => w = M.w) o v a

def chkSkip : Option Tmp → List Dst → Bool
  | none, [] => true
  | some x, [d] => chkDst slots n x d
  | _, _ => false
end

section
variable {P : Program} {CS : CallSem} {RP : FuncId → Option (List AV → Option AV)} {slots : List Nat} {n : Nat} {ops : Array Oper} {o : Oper} {op : AOp}

theorem fitsG_none (hg : o.guard = none) (h : OpFits P CS RP slots n o op) : OpFitsG P CS RP slots n ops o op := by
  intro M st a st' hf hn hr next Q K
  rw [if_pos (by simp [Region.wanted, hg])]
  exact h M st a st' hf hn hr next Q K

theorem stillG_none (hg : o.guard = none) (h : OpStill P CS RP slots n o op) : OpStillG P CS RP slots n ops o op := by
  intro M st a st' hf hn hr
  obtain ⟨v, hv⟩ := h M st a st' hf hn hr
  exact ⟨v, .inl ⟨by simp [Region.wanted, hg], fun w hw => hw ▸ hv⟩⟩

theorem wanted_of {M : Mem} {st : St} {a : Act} {g tg : Nat} {og : Oper} {want b : Bool} (hf : FR M slots n st a) (hg : o.guard = some (g, want)) (hog : ops[g]? = some og) (hd : og.dst = some tg) (hs : tg ∉ slots)
    (hb : look tg st.tmps = .bool b) : Region.wanted o (yielded ops a.tmps) = (b == want) := by
  have ht := hf.tmps tg hs
  rw [hb] at ht
  have hv : a.tmps.getD tg undef = .bool b := ht.bool
  have : a.tmps[tg]? = some (.bool b) := by
    rw [Array.getD_eq_getD_getElem?] at hv
    cases h : a.tmps[tg]? with
    | none => rw [h] at hv; simp [undef] at hv
    | some v => rw [h] at hv; simpa using hv
  simp [Region.wanted, hg, yielded, hog, hd, this]

theorem unwanted_of {M : Mem} {st : St} {a : Act} {g tg : Nat} {og : Oper} {want : Bool} (hf : FR M slots n st a) (hg : o.guard = some (g, want)) (hog : ops[g]? = some og) (hd : og.dst = some tg) (hs : tg ∉ slots)
    (hb : look tg st.tmps = .tup []) : Region.wanted o (yielded ops a.tmps) = false := by
  have ht := hf.tmps tg hs
  rw [hb] at ht
  obtain ⟨u, hv, _⟩ := (ht : TupRep M (fun k => .t tg (k + 1)) [] (a.tmps.getD tg undef))
  have : ∀ b, a.tmps[tg]? ≠ some (.bool b) := by
    intro b e
    rw [Array.getD_eq_getD_getElem?, e] at hv
    simp at hv
  simp only [Region.wanted, hg, yielded, hog, hd, Option.bind_some]
  rfl

theorem skip_fr {M : Mem} {st st' : St} {a : Act} (hf : FR M slots n st a) (hn : NoR M) {ds : List Dst} (hc : chkSkip slots n o.dst ds = true)
    (hr : skipD st ds = some st') : ∃ M', M'.w = M.w ∧ Evo M M' ∧ NoR M' ∧ FR M' slots n st' (a.put o.dst undef) := by
  unfold skipD at hr
  cases hd : o.dst with
  | none =>
    rw [hd] at hc
    cases ds with
    | nil =>
      simp only [List.foldl_nil, Option.some.injEq] at hr
      subst hr
      exact ⟨M, rfl, .refl M, hn, hf⟩
    | cons d ds => simp [chkSkip] at hc
  | some x =>
    rw [hd] at hc
    cases ds with
    | nil => simp [chkSkip] at hc
    | cons d ds =>
      cases ds with
      | cons d' ds => simp [chkSkip] at hc
      | nil =>
        simp only [List.foldl_cons, List.foldl_nil, Option.bind_some] at hr
        refine put_sound hf hc (av := skipV d) (v := undef) ?_ hr
        cases d with
        | t y => exact ⟨#[], rfl, rfl, by simp⟩
        | v i m => simp [skipV, TRep, Has, RepV]
        | n => simp [skipV, TRep, Has, RepV]

theorem fitsG_some {g tg : Nat} {og : Oper} {want : Bool} {ds : List Dst} (hg : o.guard = some (g, want)) (hog : ops[g]? = some og) (hd : og.dst = some tg) (hs : tg ∉ slots)
    (hc : chkSkip slots n o.dst ds = true) (h : OpFits P CS RP slots n o op) : OpFitsG P CS RP slots n ops o (.g (.t tg) want ds op) := by
  intro M st a st' hf hn hr next Q K
  simp only [runOp, rd] at hr
  split at hr
  · rename_i b hb
    rw [wanted_of hf hg hog hd hs hb]
    split at hr
    · rename_i hbw
      subst hbw
      rw [if_pos (by simp)]
      exact h M st a st' hf hn hr next Q K
    · rename_i hbw
      rw [if_neg (by simpa using hbw)]
      obtain ⟨M', e1, e2, e3, e4⟩ := skip_fr hf hn hc hr
      rw [← e1]
      exact K M' _ e4 e3 e2
  · rename_i hb
    rw [if_neg (by rw [unwanted_of hf hg hog hd hs hb]; simp)]
    obtain ⟨M', e1, e2, e3, e4⟩ := skip_fr hf hn hc hr
    rw [← e1]
    exact K M' _ e4 e3 e2
  · simp at hr

theorem stillG_some {g tg : Nat} {og : Oper} {want : Bool} {ds : List Dst} (hg : o.guard = some (g, want)) (hog : ops[g]? = some og) (hd : og.dst = some tg) (hs : tg ∉ slots)
    (h : OpStill P CS RP slots n o op) : OpStillG P CS RP slots n ops o (.g (.t tg) want ds op) := by
  intro M st a st' hf hn hr
  simp only [runOp, rd] at hr
  split at hr
  · rename_i b hb
    have hw := wanted_of hf hg hog hd hs hb
    split at hr
    · rename_i hbw
      subst hbw
      obtain ⟨v, hv⟩ := h M st a st' hf hn hr
      exact ⟨v, .inl ⟨by rw [hw]; simp, fun w e => e ▸ hv⟩⟩
    · rename_i hbw
      exact ⟨undef, .inr ⟨by rw [hw]; simpa using hbw, rfl⟩⟩
  · rename_i hb
    exact ⟨undef, .inr ⟨unwanted_of hf hg hog hd hs hb, rfl⟩⟩
  · simp at hr

/-- The operations as they stand. -/
def OpsFit (P : Program) (CS : CallSem) (RP : FuncId → Option (List AV → Option AV)) (slots : List Nat) (n : Nat) (ops : Array Oper) (al : List AOp) : Prop :=
  al.length = ops.size ∧ ∀ (i : Nat) (o : Oper) (op : AOp), ops[i]? = some o → al[i]? = some op → OpFitsG P CS RP slots n ops o op

theorem runOps_cons {st st' : St} {op : AOp} {l : List AOp} (h : runOps CS RP st (op :: l) = some st') : ∃ st1, runOp CS RP st op = some st1 ∧ runOps CS RP st1 l = some st' := by
  simp only [runOps] at h
  split at h
  · exact ⟨_, by assumption, h⟩
  · simp at h

theorem ops_sound {al : List AOp} (H : OpsFit P CS RP slots n ops al) {Q : Exit → Act → World → Prop} : ∀ (d k : Nat) (M : Mem) (st : St) (a : Act) (st' : St), k + d = al.length → FR M slots n st a → NoR M → runOps CS RP st (al.drop k) = some st' →
    (∀ M' a', FR M' slots n st' a' → NoR M' → Evo M M' → Q .normal a' M'.w) → wpOps P ops Q (List.range' k d) a M.w
  | 0, k, M, st, a, st', hk, hf, hn, hr, K => by
    have : al.drop k = [] := List.drop_eq_nil_of_le (by omega)
    rw [this] at hr
    simp only [runOps, Option.some.injEq] at hr
    subst hr
    exact K M a hf hn (.refl M)
  | d + 1, k, M, st, a, st', hk, hf, hn, hr, K => by
    have hlt : k < al.length := by omega
    rw [List.drop_eq_getElem_cons hlt] at hr
    obtain ⟨st1, h1, h2⟩ := runOps_cons hr
    have hko : k < ops.size := by rw [← H.1]; exact hlt
    have ho : ops[k]? = some ops[k] := Array.getElem?_eq_getElem hko
    have hfit := H.2 k _ _ ho (List.getElem?_eq_getElem hlt) M st a st1 hf hn h1 (wpOps P ops Q (List.range' (k + 1) d)) Q
      fun M' a' f' n' e' => ops_sound H d (k + 1) M' st1 a' st' (by omega) f' n' h2 fun M'' a'' f'' n'' e'' => K M'' a'' f'' n'' (e'.trans e'')
    rw [List.range'_succ, wpOps_cons, wpOp, ho]
    dsimp only
    split
    · rename_i hw
      rw [if_pos hw] at hfit
      exact .inl hfit
    · rename_i hw
      rw [if_neg hw] at hfit
      exact hfit

/-! ### orders left open -/
def allL (m : Nat) (listed : Array Bool) : Bool := (List.range m).all fun i => listed.getD i false

def Closed (ops : Array Oper) (listed : Array Bool) : Prop :=
  ∀ j o, ops[j]? = some o → listed.getD j false = true → ∀ e ∈ o.after, Region.binds .any e = true → listed.getD e.on false = true

/-- The first m come before all others. -/
def Cut (ops : Array Oper) (m : Nat) : Prop := ∀ listed, Closed ops listed → allL m listed = false → ∀ j ∈ Region.ready .any ops listed, j < m

def wpAnyG (P : Program) (ops : Array Oper) (Q : Exit → Act → World → Prop) (m : Nat) : Nat → Array Bool → Act → World → Prop
  | 0, listed, a, w => if allL m listed then wpAny P .any ops Q 0 listed a w else Region.ready .any ops listed = [] ∧ Q .normal a w
  | fuel + 1, listed, a, w => if allL m listed then wpAny P .any ops Q (fuel + 1) listed a w else
    (Region.ready .any ops listed = [] → Q .normal a w) ∧
    ∀ i ∈ Region.ready .any ops listed, wpOp P ops Q i (fun a' w' => w' = w ∧ wpAnyG P ops Q m fuel (listed.setIfInBounds i true) a' w') a w

variable {Q : Exit → Act → World → Prop} {m : Nat}

theorem wpAny_of_G : ∀ (fuel : Nat) (listed : Array Bool) (a : Act) (w : World), wpAnyG P ops Q m fuel listed a w → wpAny P .any ops Q fuel listed a w
  | 0, listed, a, w, h => by
    unfold wpAnyG at h
    split at h
    · exact h
    · exact h
  | fuel + 1, listed, a, w, h => by
    unfold wpAnyG at h
    split at h
    · exact h
    · exact ⟨h.1, fun i hi => wpOp_mono (fun a' w' h' => wpAny_of_G fuel _ a' w' h'.2) (h.2 i hi)⟩

theorem allL_false {m i : Nat} {listed : Array Bool} (hi : i < m) (h : listed.getD i true = false) : allL m listed = false := by
  rw [allL, List.all_eq_false]
  refine ⟨i, List.mem_range.2 hi, ?_⟩
  rcases Nat.lt_or_ge i listed.size with h' | h'
  · simp [h'] at h ⊢; exact h
  · simp [Array.getElem?_eq_none h'] at h

theorem Closed.set {listed : Array Bool} (h : Closed ops listed) {j : Nat} (hj : j ∈ Region.ready .any ops listed) : Closed ops (listed.setIfInBounds j true) := by
  intro k o hk hl e he hb
  by_cases hkj : j = k
  · subst hkj
    obtain ⟨_, o', ho', hall⟩ := mem_ready.1 hj
    rw [hk] at ho'
    simp only [Option.some.injEq] at ho'
    subst ho'
    exact getD_set_true (hall e he hb)
  · rw [getD_set_ne false hkj] at hl
    exact getD_set_true (h k o hk hl e he hb)

theorem wpAnyG_first {i : Nat} {oi : Oper} {v : Value} (hi : ops[i]? = some oi) (hsel : ∀ (j : Nat) (o : Oper) cs b, ops[j]? = some o → o.op ≠ .select cs b)
    (hQ : ∀ c a w, ¬ Q (.panic c) a w) (hcut : Cut ops m) (him : i < m) :
    ∀ (fuel : Nat) (listed : Array Bool) (a : Act) (w : World), Closed ops listed →
      (∀ j oj, ops[j]? = some oj → j ≠ i → listed.getD j true = false → (∀ e ∈ oj.after, Region.binds .any e = true → e.on ≠ i) → oi.apart ops oj = true) →
      i ∈ Region.ready .any ops listed → YieldsIf P ops (fun x => x = w) oi v a →
      wpAnyG P ops Q m fuel (listed.setIfInBounds i true) (a.put oi.dst v) w → wpAnyG P ops Q m (fuel + 1) listed a w := by
  intro fuel
  induction fuel with
  | zero =>
    intro listed a w hcl _ hr hy H
    have hiu := (mem_ready.1 hr).1
    unfold wpAnyG
    rw [if_neg (by rw [allL_false him hiu]; simp)]
    refine ⟨fun h => (by rw [h] at hr; cases hr), fun j hj => ?_⟩
    by_cases hji : j = i
    · subst hji; exact hy.wpOp hi rfl ⟨rfl, H⟩
    · have hj' := ready_mono hj hji
      have hjm := hcut _ hcl (allL_false him hiu) j hj
      unfold wpAnyG at H
      rw [if_neg (by rw [allL_false hjm (mem_ready.1 hj').1]; simp)] at H
      rw [H.1] at hj'
      cases hj'
  | succ fuel ih =>
    intro listed a w hcl hfree hr hy H
    have hiu := (mem_ready.1 hr).1
    rw [wpAnyG, if_neg (by rw [allL_false him hiu]; simp)]
    refine ⟨fun h => (by rw [h] at hr; cases hr), fun j hj => ?_⟩
    by_cases hji : j = i
    · subst hji; exact hy.wpOp hi rfl ⟨rfl, H⟩
    · have hj' := ready_mono hj hji
      have hjm := hcut _ hcl (allL_false him hiu) j hj
      rw [wpAnyG, if_neg (by rw [allL_false hjm (mem_ready.1 hj').1]; simp)] at H
      have h1 := H.2 j hj'
      obtain ⟨hjun, oj, hoj, hall⟩ := mem_ready.1 hj
      have hnot : ∀ e ∈ oj.after, Region.binds .any e = true → e.on ≠ i := fun e he hb heq => by
        have h1 := hall e he hb
        rw [heq] at h1
        rcases Nat.lt_or_ge i listed.size with h' | h'
        · simp [h'] at hiu h1; rw [hiu] at h1; cases h1
        · simp [Array.getElem?_eq_none h'] at h1
      have h2 := wpOp_putIf hoj (hfree j oj hoj hji hjun hnot) (fun cs b => hsel i oi cs b hi) (fun cs b => hsel j oj cs b hoj) (fun c a w h => absurd h (hQ c _ w)) hy h1
      have hfree' : ∀ k ok, ops[k]? = some ok → k ≠ i → (listed.setIfInBounds j true).getD k true = false →
          (∀ e ∈ ok.after, Region.binds .any e = true → e.on ≠ i) → oi.apart ops ok = true := fun k ok hk hki hun hno => by
        refine hfree k ok hk hki ?_ hno
        by_cases hjk : j = k
        · subst hjk; exact hjun
        · rw [getD_set_ne true hjk] at hun; exact hun
      refine wpOp_mono (fun a' w' h3 => ⟨h3.2.1, ?_⟩) h2
      obtain ⟨h4, h5, h6⟩ := h3
      subst h5
      refine ih (listed.setIfInBounds j true) a' _ (hcl.set hj) hfree' (ready_mono hr (Ne.symm hji)) h4 ?_
      rw [Array.setIfInBounds_comm _ _ hji]
      exact h6

/-- The first k have come up. -/
def upto (N k : Nat) : Array Bool := ((List.range N).map fun i => decide (i < k)).toArray

theorem upto_getD {N k j : Nat} (d : Bool) (h : j < N) : (upto N k).getD j d = decide (j < k) := by simp [upto, h]

theorem upto_out {N k j : Nat} (d : Bool) (h : N ≤ j) : (upto N k).getD j d = d := by
  have : (upto N k).size ≤ j := by simp [upto, h]
  simp [Array.getElem?_eq_none this]

theorem upto_zero (N : Nat) : Array.replicate N false = upto N 0 := by
  apply Array.ext
  · simp [upto]
  · intro i h1 h2
    simp [upto]

theorem upto_succ {N k : Nat} (h : k < N) : (upto N k).setIfInBounds k true = upto N (k + 1) := by
  apply Array.ext
  · simp [upto]
  · intro i h1 h2
    simp only [upto, List.size_toArray, List.length_map, List.length_range] at h2
    rw [Array.getElem_setIfInBounds (by simpa [upto] using h2)]
    · by_cases e : k = i
      · subst e; simp [upto]
      · rw [if_neg e]
        simp only [upto, List.getElem_toArray, List.getElem_map, List.getElem_range, decide_eq_decide]
        omega

/-- Groups of operations: one alone, or several that leave the world as it is. -/
inductive GroupsOk (P : Program) (CS : CallSem) (RP : FuncId → Option (List AV → Option AV)) (slots : List Nat) (n : Nat) (ops : Array Oper) (al : List AOp) : Nat → Prop
  | done : GroupsOk P CS RP slots n ops al ops.size
  | one (k : Nat) : k < ops.size → Region.ready .any ops (upto ops.size k) = [k] → GroupsOk P CS RP slots n ops al (k + 1) → GroupsOk P CS RP slots n ops al k
  | many (k m : Nat) : k ≤ m → m ≤ ops.size → Cut ops m → (∀ (i : Nat) (o : Oper) (op : AOp), k ≤ i → i < m → ops[i]? = some o → al[i]? = some op → OpStillG P CS RP slots n ops o op) →
      (∀ i, k ≤ i → i < m → i ∈ Region.ready .any ops (upto ops.size i) ∧ Region.free .any ops (upto ops.size i) i = true) → GroupsOk P CS RP slots n ops al m → GroupsOk P CS RP slots n ops al k

theorem closed_upto {k : Nat} (hk : ∀ i, i < k → i ∈ Region.ready .any ops (upto ops.size i)) : k ≤ ops.size → Closed ops (upto ops.size k) := by
  intro hkn
  induction k with
  | zero =>
    intro j o hj hl
    have hjn : j < ops.size := (Array.getElem?_eq_some_iff.1 hj).1
    rw [upto_getD _ hjn] at hl
    simp at hl
  | succ k ih =>
    have := (ih (fun i hi => hk i (by omega)) (by omega)).set (hk k (by omega))
    rwa [upto_succ (by omega)] at this

theorem allL_upto {N m : Nat} (h : m ≤ N) : allL m (upto N m) = true := by
  rw [allL, List.all_eq_true]
  intro i hi
  have := List.mem_range.1 hi
  rw [upto_getD _ (by omega)]
  simpa using this

theorem draw_sound {al : List AOp} (H : OpsFit P CS RP slots n ops al) (hs : Region.noSelect ops = true) (hQ : ∀ c a w, ¬ Q (.panic c) a w) {k : Nat} (hG : GroupsOk P CS RP slots n ops al k) :
    (∀ i, i < k → i ∈ Region.ready .any ops (upto ops.size i)) → ∀ (M : Mem) (st : St) (a : Act) (st' : St), FR M slots n st a → NoR M → runOps CS RP st (al.drop k) = some st' →
    (∀ M' a', FR M' slots n st' a' → NoR M' → Evo M M' → Q .normal a' M'.w) → wpAny P .any ops Q (ops.size - k) (upto ops.size k) a M.w := by
  have step : ∀ {k : Nat}, k < ops.size → ∃ (hl : k < al.length), ops[k]? = some ops[k]! ∧ al.drop k = al[k] :: al.drop (k + 1) := by
    intro k hk
    have hl : k < al.length := by rw [H.1]; exact hk
    exact ⟨hl, by simp [hk], List.drop_eq_getElem_cons hl⟩
  induction hG with
  | done =>
    intro _ M st a st' hf hn hr K
    have : al.drop ops.size = [] := List.drop_eq_nil_of_le (Nat.le_of_eq H.1)
    rw [this] at hr
    simp only [runOps, Option.some.injEq] at hr
    subst hr
    refine wpAny_done ?_ (K M a hf hn (.refl M)) _
    rw [List.eq_nil_iff_forall_not_mem]
    intro j hj
    obtain ⟨h0, o, ho, _⟩ := mem_ready.1 hj
    have hjn : j < ops.size := (Array.getElem?_eq_some_iff.1 ho).1
    rw [upto_getD _ hjn] at h0
    simp [hjn] at h0
  | one k hk hrd hG ih =>
    intro hpre M st a st' hf hn hr K
    obtain ⟨hl, ho, hd⟩ := step hk
    rw [hd] at hr
    obtain ⟨st1, h1, h2⟩ := runOps_cons hr
    have hsz : ops.size - k = (ops.size - (k + 1)) + 1 := by omega
    rw [hsz]
    refine wpAny_all hrd (by simp) fun i hi => ?_
    simp only [List.mem_singleton] at hi
    subst hi
    rw [upto_succ hk]
    have hfit := H.2 i _ _ ho (List.getElem?_eq_getElem hl) M st a st1 hf hn h1 (wpAny P .any ops Q (ops.size - (i + 1)) (upto ops.size (i + 1))) Q
      fun M' a' f' n' e' => ih (fun j hj => by
        by_cases e : j = i
        · subst e; rw [hrd]; simp
        · exact hpre j (by omega)) M' st1 a' st' f' n' h2 fun M'' a'' f'' n'' e'' => K M'' a'' f'' n'' (e'.trans e'')
    rw [wpOp, ho]
    dsimp only
    split
    · rename_i hw
      rw [if_pos hw] at hfit
      exact .inl hfit
    · rename_i hw
      rw [if_neg hw] at hfit
      exact hfit
  | many k m hkm hmn hcut hst hfr hG ih =>
    intro hpre M st a st' hf hn hr K
    have hpre' : ∀ i, i < m → i ∈ Region.ready .any ops (upto ops.size i) := by
      intro i hi
      by_cases e : i < k
      · exact hpre i e
      · exact (hfr i (by omega) hi).1
    refine wpAny_of_G (m := m) _ _ _ _ ?_
    have key : ∀ (d i : Nat), i + d = m → k ≤ i → ∀ (M : Mem) (st : St) (a : Act), FR M slots n st a → NoR M → runOps CS RP st (al.drop i) = some st' →
        (∀ M' a', FR M' slots n st' a' → NoR M' → Evo M M' → Q .normal a' M'.w) → wpAnyG P ops Q m (ops.size - i) (upto ops.size i) a M.w := by
      intro d
      induction d with
      | zero =>
        intro i hi hki M st a hf hn hr K
        have : i = m := by omega
        subst this
        have := ih hpre' M st a st' hf hn hr K
        cases hz : ops.size - i with
        | zero => rw [hz] at this; unfold wpAnyG; rw [if_pos (allL_upto hmn)]; exact this
        | succ z => rw [hz] at this; unfold wpAnyG; rw [if_pos (allL_upto hmn)]; exact this
      | succ d ihd =>
        intro i hi hki M st a hf hn hr K
        have hin : i < ops.size := by omega
        obtain ⟨hl, ho, hd⟩ := step hin
        rw [hd] at hr
        obtain ⟨st1, h1, h2⟩ := runOps_cons hr
        obtain ⟨v, hy⟩ := hst i _ _ hki (by omega) ho (List.getElem?_eq_getElem hl) M st a st1 hf hn h1
        have hsz : ops.size - i = (ops.size - (i + 1)) + 1 := by omega
        rw [hsz]
        refine wpAnyG_first ho (Region.noSelect_spec hs) hQ hcut (by omega) _ _ a M.w (closed_upto (fun j hj => hpre' j (by omega)) (by omega)) (Region.free_spec ho (hfr i hki (by omega)).2) (hfr i hki (by omega)).1 hy ?_
        rw [upto_succ hin]
        have hfit := H.2 i _ _ ho (List.getElem?_eq_getElem hl) M st a st1 hf hn h1 (wpAnyG P ops Q m (ops.size - (i + 1)) (upto ops.size (i + 1))) Q
          fun M' a' f' n' e' => ihd (i + 1) (by omega) (by omega) M' st1 a' f' n' h2 fun M'' a'' f'' n'' e'' => K M'' a'' f'' n'' (e'.trans e'')
        rcases hy with ⟨hw, hv⟩ | ⟨hw, rfl⟩
        · rw [if_pos hw] at hfit
          unfold Oper.wp at hfit
          rw [hv _ rfl, Oper.upon_value] at hfit
          exact hfit
        · rw [if_neg (by rw [hw]; simp)] at hfit
          exact hfit
    exact key (m - k) k (by omega) (Nat.le_refl _) M st a hf hn hr K

end
end Go.VS
