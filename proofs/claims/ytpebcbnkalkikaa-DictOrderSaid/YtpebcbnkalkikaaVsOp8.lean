/- Operations: structs, slices with values, make, bytes and strings. -/
import Derived.Test.YtpebcbnkalkikaaVsOp7
set_option linter.unusedVariables false
namespace Go.VS

/-- Cells laid over others. -/
theorem foldl_set (vs : List Value) : ∀ (k : Nat) (off : Nat) (cells : Array Value), off + k + vs.length ≤ cells.size →
    ((vs.zipIdx k).foldl (fun (cs : Array Value) (p : Value × Nat) => cs.setIfInBounds (off + p.2) p.1) cells).toList = cells.toList.take (off + k) ++ vs ++ cells.toList.drop (off + k + vs.length) := by
  induction vs with
  | nil => intro k off cells h; simp
  | cons v vs ih =>
    intro k off cells h
    simp only [List.zipIdx_cons, List.foldl_cons]
    rw [ih (k + 1) off (cells.setIfInBounds (off + k) v) (by simp at h ⊢; omega)]
    simp only [Array.toList_setIfInBounds, List.length_cons] at h ⊢
    have hlt : off + k < cells.toList.length := by simp at h ⊢; omega
    rw [show off + (k + 1) = off + k + 1 by omega, show off + k + 1 + vs.length = off + k + (vs.length + 1) by omega]
    rw [List.take_succ_eq_append_getElem (by simpa using hlt), List.getElem_set_self, List.take_set_of_le (Nat.le_refl _), List.drop_set_of_lt (by omega)]
    simp

theorem lay_cells (v : Value) (off : Nat) (cells : Array Value) (h : off + v.cells.size ≤ cells.size) :
    (v.cells.zipIdx.foldl (fun cs (c, j) => cs.setIfInBounds (off + j) c) cells).toList = cells.toList.take off ++ v.cells.toList ++ cells.toList.drop (off + v.cells.size) := by
  have := foldl_set v.cells.toList 0 off cells (by simpa using h)
  simp only [Nat.add_zero, Array.length_toList] at this
  rw [← this, ← Array.foldl_toList]
  congr 1
  congr 1
  simp

theorem Reps.append {S : Cells} {G : Lay} {w : World} : ∀ {xs ys : List AV} {us vs : List Value}, Reps S G w xs us → Reps S G w ys vs → Reps S G w (xs ++ ys) (us ++ vs)
  | [], ys, us, vs, h, k => by simp only [Reps] at h; subst h; simpa using k
  | x :: xs, ys, us, vs, h, k => by
    simp only [Reps] at h
    obtain ⟨v, r, rfl, h1, h0, h2, h3⟩ := h
    simp only [List.cons_append, Reps]
    exact ⟨v, r ++ vs, rfl, h1, h0, h2, h3.append k⟩

theorem Reps.take {S : Cells} {G : Lay} {w : World} {xs : List AV} {us : List Value} (h : Reps S G w xs us) (k : Nat) : Reps S G w (xs.take k) (us.take k) := by
  simpa using h.sub 0 k

theorem Reps.drop {S : Cells} {G : Lay} {w : World} {xs : List AV} {us : List Value} (h : Reps S G w xs us) (k : Nat) : Reps S G w (xs.drop k) (us.drop k) := by
  have := h.sub k xs.length
  rw [List.take_of_length_le (by simp), List.take_of_length_le (by have := h.length; simp; omega)] at this
  exact this

def chkParts (slots : List Nat) (place : Nat → Option (Nat × Nat)) : List (Nat × Operand) → List (Nat × Nat × Ref) → Bool
  | [], [] => true
  | (i, o) :: os, (off, sz, r) :: rs => place i == some (off, sz) && chkRef slots o r && chkParts slots place os rs
  | _, _ => false

section
variable {P : Program} {CS : CallSem} {RP : FuncId → Option (List AV → Option AV)} {slots : List Nat} {n : Nat} {M : Mem} {st : St} {a : Act}

theorem setPart_fill {x : AV} {v : Value} (hp : plain x = true) (h : RepV M.S M.G M.w x v) {cs cs' : List AV} {cells : Array Value} (hc : Reps M.S M.G M.w cs cells.toList) {off sz : Nat}
    (hs : setPart cs off sz x = some cs') : v.cells.size = sz ∧ off + v.cells.size ≤ cells.size ∧ Reps M.S M.G M.w cs' (v.cells.zipIdx.foldl (fun cs (c, j) => cs.setIfInBounds (off + j) c) cells).toList := by
  unfold setPart at hs
  split at hs
  · rename_i h1
    split at hs
    · rename_i h2
      simp only [Option.some.injEq] at hs
      subst hs
      have hr := cells_reps hp h
      have e1 : v.cells.size = sz := by have := hr.length; simp at this; omega
      have e2 : off + v.cells.size ≤ cells.size := by have := hc.length; simp at this; omega
      refine ⟨e1, e2, ?_⟩
      rw [lay_cells v off cells e2, e1]
      exact ((hc.take off).append hr).append (hc.drop (off + sz))
    · simp at hs
  · simp at hs

theorem build_sound {place : Nat → Option (Nat × Nat)} : ∀ {os : List (Nat × Operand)} {rs : List (Nat × Nat × Ref)} {M : Mem} {st : St} {cs cs' : List AV} {st' : St} {cells : Array Value}, FR M slots n st a →
    chkParts slots place os rs = true → Reps M.S M.G M.w cs cells.toList → buildCells st cs rs = some (cs', st') →
    ∃ M' cells', Handed M slots n st' a M' ∧ Instr.fill place cells (os.map fun p => (p.1, a.eval p.2)) = some cells' ∧ Reps M'.S M'.G M'.w cs' cells'.toList
  | [], [], M, st, cs, cs', st', cells, h, _, hc, hb => by
    simp only [buildCells, Option.some.injEq, Prod.mk.injEq] at hb
    obtain ⟨rfl, rfl⟩ := hb
    exact ⟨M, cells, Handed.refl h, rfl, hc⟩
  | (i, o) :: os, (off, sz, r) :: rs, M, st, cs, cs', st', cells, h, hk, hc, hb => by
    simp only [chkParts, Bool.and_eq_true, beq_iff_eq] at hk
    obtain ⟨⟨h1, h2⟩, h3⟩ := hk
    simp only [buildCells] at hb
    split at hb
    · rename_i x st1 hp
      split at hb
      · rename_i cs1 hs
        obtain ⟨M1, k1, r1, p1, _⟩ := pers_sound h h2 hp
        have hc1 : Reps M1.S M1.G M1.w cs cells.toList := Reps.mono k1.evo.grow cs _ hc
        obtain ⟨e1, e2, e3⟩ := setPart_fill p1 r1 hc1 hs
        obtain ⟨M2, cells2, k2, f2, r2⟩ := build_sound k1.fr h3 e3 hb
        refine ⟨M2, cells2, k1.trans k2, ?_, r2⟩
        simp only [List.map_cons, Instr.fill, h1]
        rw [if_neg (by simp only [Bool.or_eq_true, decide_eq_true_eq]; omega)]
        exact f2
      · simp at hb
    · simp at hb
  | [], _ :: _, _, _, _, _, _, _, _, hk, _, _ => by simp [chkParts] at hk
  | _ :: _, [], _, _, _, _, _, _, _, hk, _, _ => by simp [chkParts] at hk

/-- Where a struct's fields, an array's elements lie. -/
def PlacesAre (P : Program) (T : TypeId) (zero : List AV) (place : Nat → Option (Nat × Nat)) : Prop :=
  ∃ i z, P.info? T = some i ∧ i.zero = some z ∧ zeroOk zero z.cells.toList = true ∧
    ((∃ fs places, P.underlying T = some (.struct fs) ∧ fs.toList.mapM (fun f => (P.info? f.type).map fun i => (f.offset, i.size)) = some places ∧ place = fun k => places.toArray[k]?) ∨
     (∃ k e s, P.underlying T = some (.array k e) ∧ SizeIs P e s ∧ place = fun j => some (j * s, s)))

theorem fits_bld {o : Oper} {T : TypeId} {ps : Array (Nat × Operand)} (ho : o.op = .build T ps) {zero : List AV} {place : Nat → Option (Nat × Nat)} (hz : PlacesAre P T zero place) {d : Dst} {rs : List (Nat × Nat × Ref)}
    (hd : chkDstO slots n o.dst d = true) (hk : chkParts slots place ps.toList rs = true) : OpFits P CS RP slots n o (.bld d zero rs) := by
  intro M st a st' h hn hr next Q K
  simp only [runOp] at hr
  split at hr
  · rename_i cs st1 hb
    obtain ⟨ti, z, h1, h2, h3, h4⟩ := hz
    obtain ⟨M1, cells, k1, f1, r1⟩ := build_sound (a := a) h hk (zeroOk_reps h3) hb
    have hbuilt : P.built T (ps.map fun (i, x) => (i, a.eval x)).toList = some cells := by
      have hps : (ps.map fun (i, x) => (i, a.eval x)).toList = ps.toList.map fun p => (p.1, a.eval p.2) := by simp
      rw [hps]
      rcases h4 with ⟨fs, places, e1, e2, rfl⟩ | ⟨k, e, s, e1, ⟨ie, e2, e3⟩, rfl⟩
      · simp only [Program.built, h1, e1, h2, e2]
        exact f1
      · simp only [Program.built, h1, e1, h2, e2, e3]
        exact f1
    have hrun : (execOp a.eval o).run P M.w = .ok (.value (.agg cells)) M.w := by
      simp only [execOp, ho, Sem.run_bind, run_build M.w T _ cells hbuilt, Result.andThen_ok, Sem.run_pure]
    rw [hrun]
    exact value_ok (av := .agg cs) k1.fr k1.evo hd (rep_trep rfl ⟨_, rfl, r1⟩) hr k1.w.symm K
  · simp at hr

theorem RepVs.length : ∀ {xs : List AV} {vs : List Value}, RepVs M xs vs → vs.length = xs.length
  | [], _, h => by simp only [RepVs] at h; subst h; rfl
  | x :: xs, _, ⟨v, r, e, _, h⟩ => by subst e; simp [h.length]

/-- Elements that are values one by one. -/
theorem flat_of {s : Nat} : ∀ {xs : List AV} {vs : List Value}, RepVs M xs vs → (∀ x ∈ xs, plain x = true) → xs.all (elemOk s) = true → Flat M.S M.G M.w s xs (vs.flatMap fun v => v.cells.toList) ∧ ∀ v ∈ vs, v.cells.size = s
  | [], _, h, _, _ => by simp only [RepVs] at h; subst h; simp [Flat]
  | x :: xs, _, ⟨v, r, e, h1, h2⟩, hp, ha => by
    subst e
    simp only [List.all_cons, Bool.and_eq_true, elemOk, beq_iff_eq] at ha
    have hpx := hp x (by simp)
    have hreps := cells_reps hpx h1
    have hsz : v.cells.size = s := by have := hreps.length; simp at this; omega
    obtain ⟨f1, f2⟩ := flat_of h2 (fun y hy => hp y (by simp [hy])) ha.2
    have hrep : Rep M.S M.G M.w x v.cells.toList := by
      cases x with
      | agg cs => obtain ⟨us, rfl, hr⟩ := h1; simp only [Rep]; exact hr
      | undef => simp [plain] at hpx
      | _ =>
        have hr := rep_of rfl hpx h1
        obtain ⟨u, q1, q2, _⟩ := rep_one rfl (by simp) hr
        simp only [List.cons.injEq, and_true] at q1
        subst q1
        rw [q2]; exact hr
    refine ⟨?_, ?_⟩
    · simp only [List.flatMap_cons, Flat]
      exact ⟨_, _, rfl, by simpa using hsz, Rep.ones x _ hrep, hrep, f1⟩
    · intro u hu
      rcases List.mem_cons.1 hu with rfl | hu
      · exact hsz
      · exact f2 u hu

theorem fill_full {s : Nat} : ∀ (vs : List Value) (k : Nat) (cells : Array Value), (∀ v ∈ vs, v.cells.size = s) → cells.size = (k + vs.length) * s →
    ∃ cells', Instr.fill (fun i => some (i * s, s)) cells ((vs.zipIdx k).map fun p => (p.2, p.1)) = some cells' ∧ cells'.toList = cells.toList.take (k * s) ++ vs.flatMap fun v => v.cells.toList
  | [], k, cells, _, h => ⟨cells, rfl, by simp at h; rw [List.take_of_length_le (by simp; omega)]; simp⟩
  | v :: vs, k, cells, hs, h => by
    have hv := hs v (by simp)
    have hle : k * s + v.cells.size ≤ cells.size := by
      rw [h, hv, List.length_cons, ← Nat.succ_mul]
      exact Nat.mul_le_mul_right s (by omega)
    have hsz : (v.cells.zipIdx.foldl (fun cs (c, j) => cs.setIfInBounds (k * s + j) c) cells).size = cells.size := by
      rw [← Array.length_toList, lay_cells v (k * s) cells hle]
      simp
      omega
    obtain ⟨cells', e1, e2⟩ := fill_full vs (k + 1) (v.cells.zipIdx.foldl (fun cs (c, j) => cs.setIfInBounds (k * s + j) c) cells) (fun u hu => hs u (by simp [hu])) (by rw [hsz, h]; congr 1; simp; omega)
    refine ⟨cells', ?_, ?_⟩
    · simp only [List.zipIdx_cons, List.map_cons, Instr.fill]
      rw [if_neg (by simp only [Bool.or_eq_true, decide_eq_true_eq]; omega)]
      exact e1
    · rw [e2, lay_cells v (k * s) cells hle]
      have hl1 : (cells.toList.take (k * s) ++ v.cells.toList).length = (k + 1) * s := by
        rw [List.length_append, List.length_take, Array.length_toList, Array.length_toList, hv, Nat.add_mul]
        omega
      rw [List.take_left' hl1]
      simp

theorem fits_lit {o : Oper} {T e len s eb : Nat} {z : Value} {ps : Array (Nat × Operand)} (ho : o.op = .buildSlice T len ps) (ht : P.underlying T = some (.slice e)) (he : ElemIs P e s eb z) (hsm : len * s ≤ 16777216)
    (hps : (ps.toList.map (·.1)) = List.range len) {d : Dst} {rs : List Ref} (hd : chkDstO slots n o.dst d = true) (hk : chkRefs slots (ps.toList.map (·.2)) rs = true) : OpFits P CS RP slots n o (.lit d s rs) := by
  intro M st a st' h hn hr next Q K
  simp only [runOp] at hr
  split at hr
  · rename_i l st1 hp
    split at hr
    · rename_i hall
      obtain ⟨M1, k1, r1, p1, _⟩ := persL_sound h hk hp
      obtain ⟨i, hi, hsz, hby, hz⟩ := he.info
      obtain ⟨hF, hcs⟩ := flat_of r1 p1 hall
      have hlen : (ps.toList.map (·.2)).length = len := by
        have := congrArg List.length hps
        simpa using this
      have hll : l.length = len := by have := r1.length; simp at this hlen ⊢; omega
      let vs := (ps.toList.map (·.2)).map a.eval
      have hvl : vs.length = len := by simp only [vs, List.length_map] at hlen ⊢; exact hlen
      have hparts : (ps.map fun (i, x) => (i, a.eval x)).toList = (vs.zipIdx 0).map fun p => (p.2, p.1) := by
        apply List.ext_getElem?
        intro j
        simp only [vs, Array.toList_map, List.getElem?_map, List.getElem?_zipIdx, Nat.zero_add, List.map_map]
        rcases hj : ps.toList[j]? with _ | p
        · simp
        · have h2 := congrArg (·[j]?) hps
          simp only [List.getElem?_map, hj, Option.map_some] at h2
          have hjl : j < len := by
            have := (List.getElem?_eq_some_iff.1 hj).1
            simp at hlen this; omega
          rw [List.getElem?_range hjl] at h2
          simp only [Option.some.injEq] at h2
          simp [h2]
      let zero : Array Value := if len * s = 0 then #[] else z.cells
      let cells0 : Array Value := (Array.range (len * s)).map (zero[· % zero.size]!)
      obtain ⟨cells, f1, f2⟩ := fill_full (s := s) vs 0 cells0 hcs (by simp [cells0, hvl])
      simp only [Nat.zero_mul, List.take_zero, List.nil_append] at f2
      have hrun : (execOp a.eval o).run P M.w = .ok (.value (.slice (some ⟨M.w.heap.size, 0, none⟩) len len)) (M.w.alloc (.cells cells e)) := by
        simp only [execOp, ho, Instr.buildSlice, Sem.run_bind, run_underlying ht, Result.andThen_ok, run_sizeOf' ⟨i, hi, hsz⟩]
        have hnb : ¬ (len * s > 2 ^ 24) := by omega
        rw [if_neg hnb]
        have hc0 : ∀ Z : Array Value, Z = zero → (Array.range (len * s)).map (fun x => Z[x % Z.size]!) = cells0 := by rintro _ rfl; rfl
        by_cases hls : len * s = 0
        · rw [if_pos hls]
          simp only [Sem.run_bind, Sem.run_pure, Result.andThen_ok]
          rw [hparts, hc0 #[] (if_pos hls).symm, f1]
          simp only [newRow, Sem.run_bind, run_newObj, Result.andThen_ok, Sem.run_pure]
          rfl
        · rw [if_neg hls]
          simp only [Sem.run_bind, run_zeroValue' hi hz, Result.andThen_ok, Sem.run_pure]
          rw [hparts, hc0 z.cells (if_neg hls).symm, f1]
          simp only [newRow, Sem.run_bind, run_newObj, Result.andThen_ok, Sem.run_pure]
          rfl
      rw [hrun]
      have hp1 : Plus M1.w (M.w.alloc (.cells cells e)) (.cells cells e (0, 0)) := by rw [k1.w]; exact Plus.alloc _ _
      cases l with
      | nil =>
        have hl0 : len = 0 := by simpa using hll.symm
        have hev := alloc_evo k1.fr.wf hp1 (.t n 0)
        have hfr := alloc_fr k1.fr hp1 (.t n 0)
        refine value_ok (av := .sl .full s []) hfr (k1.evo.trans hev) hd (rep_trep rfl ?_) hr rfl K
        simp only [RepV, Rep]
        exact .inr ⟨M.w.heap.size, 0, by rw [hl0]; rfl, by simp, by simp [Els]⟩
      | cons x l =>
        have hN := new_arr (key := .r 0) (cap := (x :: l).length) k1.fr.wf hp1 hF (fun j u hj => by
          have : cells.toList[j]? = some u := by rw [f2]; exact hj
          simpa using this) (Nat.le_refl _) (by
            have := congrArg List.length f2
            rw [hF.length] at this
            simp only [Array.length_toList] at this
            rw [this]; exact Nat.le_refl _) (by simp) (by simp)
        have hev := alloc_evo k1.fr.wf hp1 (.r 0)
        have hfr := alloc_fr k1.fr hp1 (.r 0)
        have hsz1 : M1.w.heap.size = M.w.heap.size := by rw [k1.w]
        rw [hsz1] at hN hev hfr
        rw [← hll]
        exact value_ok (av := .sl (.own true) s (x :: l)) hfr (k1.evo.trans hev) hd hN hr rfl K
    · simp at hr
  · simp at hr

theorem fits_mks {o : Oper} {T e s eb : Nat} {z : Value} {x : Operand} (ho : o.op = .makeSlice T x x) (ht : P.underlying T = some (.slice e)) (he : ElemIs P e s eb z) {zero : AV}
    (hzr : ∀ S G w, RepV S G w zero z) (hzp : plain zero = true) {d : Dst} {rx : Ref} (hd : chkDstO slots n o.dst d = true) (hx : chkRef slots x rx = true) : OpFits P CS RP slots n o (.mks d zero s eb rx) := by
  intro M st a st' h hn hr next Q K
  simp only [runOp] at hr
  obtain ⟨kx, tx⟩ := rd_trep h hx
  split at hr
  · rename_i q k hl
    rw [hl] at tx
    split at hr
    · rename_i h0
      split at hr
      · rename_i hlim
        split at hr
        · rename_i heb
          split at hr
          · rename_i hel
            obtain ⟨i, hi, hsz, hby, hz⟩ := he.info
            have hl31 : k.toNat ≤ 2147483648 := hlim
            have hb : (i.bytes : Int) * k ≤ 281474976710656 := by
              have h1 : i.bytes * k.toNat ≤ 4096 * 2147483648 := Nat.mul_le_mul (by omega) hl31
              have h2 : ((i.bytes * k.toNat : Nat) : Int) = (i.bytes : Int) * k := by
                rw [Int.natCast_mul, Int.toNat_of_nonneg h0]
              omega
            have hr1 := run_make M.w T e i z ht hi hz q q k k h0 (Int.le_refl _) hb (by omega)
            have hrun : (execOp a.eval o).run P M.w = .ok (.value (.slice (some ⟨M.w.heap.size, 0, none⟩) k.toNat k.toNat)) (M.w.alloc (.cells (madeCells z.cells (k.toNat * i.size)) e)) := by
              simp only [execOp, ho, tx.int, Sem.run_bind, hr1, Result.andThen_ok, Sem.run_pure]
            rw [hrun]
            have hp1 : Plus M.w (M.w.alloc (.cells (madeCells z.cells (k.toNat * i.size)) e)) (.cells (madeCells z.cells (k.toNat * i.size)) e (0, 0)) := Plus.alloc _ _
            have hrv : ∀ m : Nat, RepVs M (List.replicate m zero) (List.replicate m z) := by
              intro m
              induction m with
              | zero => rfl
              | succ m ih => exact ⟨z, _, rfl, hzr _ _ _, ih⟩
            obtain ⟨hF, _⟩ := flat_of (s := s) (hrv k.toNat) (by intro y hy; rw [List.eq_of_mem_replicate hy]; exact hzp) (by
              rw [List.all_eq_true]; intro y hy; rw [List.eq_of_mem_replicate hy]; exact hel)
            have hcell : ∀ (j : Nat) (v : Value), ((List.replicate k.toNat z).flatMap fun v => v.cells.toList)[j]? = some v → (madeCells z.cells (k.toNat * i.size))[j]? = some v := by
              intro j v hj
              have key : ∀ (m j : Nat) (v : Value), ((List.replicate m z).flatMap fun v => v.cells.toList)[j]? = some v → z.cells[j % z.cells.size]? = some v ∧ j < m * z.cells.size := by
                intro m
                induction m with
                | zero => intro j v hj; simp at hj
                | succ m ih =>
                  intro j v hj
                  rw [List.replicate_succ, List.flatMap_cons] at hj
                  rcases Nat.lt_or_ge j z.cells.size with hlt | hge
                  · rw [List.getElem?_append_left (by simpa using hlt)] at hj
                    rw [Nat.mod_eq_of_lt hlt]
                    refine ⟨by simpa using hj, ?_⟩
                    rw [Nat.add_mul]; omega
                  · rw [List.getElem?_append_right (by simpa using hge)] at hj
                    obtain ⟨e1, e2⟩ := ih _ _ hj
                    simp only [Array.length_toList] at e1 e2
                    rw [Nat.mod_eq_sub_mod hge]
                    exact ⟨e1, by rw [Nat.add_mul]; omega⟩
              obtain ⟨e1, e2⟩ := key k.toNat j v hj
              have hjl : j < k.toNat * i.size := by rw [hsz, ← he.cells]; exact e2
              unfold madeCells
              rw [Array.getElem?_map, Array.getElem?_range, if_pos hjl]
              simp only [Option.map_some, Option.some.injEq]
              rw [getElem!_def, e1]
            have hN := new_arr (key := .r 0) (cap := k.toNat) h.wf hp1 hF hcell (by simp) (by rw [size_madeCells, hsz]; exact Nat.le_refl _) (by simp) (by
              intro e0
              have := congrArg List.length e0
              simpa using this)
            refine value_ok (av := .sl (.own true) s (List.replicate k.toNat zero)) (alloc_fr h hp1 (.r 0)) (alloc_evo h.wf hp1 (.r 0)) hd ?_ hr rfl K
            have : (List.replicate k.toNat zero).length = k.toNat := by simp
            rw [this] at hN
            exact hN
          · simp at hr
        · simp at hr
      · simp at hr
    · simp at hr
  · simp at hr

theorem decBytes_flat {S : Cells} {G : Lay} {w : World} : ∀ {xs : List AV} {l : List UInt8} {vs : List Value}, decBytes xs = some l → Flat S G w 1 xs vs → (∀ x ∈ xs, ∃ k : Int, x = .int .u8 k) ∧
    ∃ ns : List Int, vs = ns.map (Value.int .u8) ∧ ns.length = l.length ∧ ns.foldl (fun r n => r.push (UInt8.ofNat n.toNat)) ByteArray.empty = ⟨l.toArray⟩
  | xs, l, vs, hd, hF => by
    have key : ∀ (xs : List AV) (l : List UInt8) (vs : List Value), decBytes xs = some l → Flat S G w 1 xs vs → (∀ x ∈ xs, ∃ k : Int, x = .int .u8 k) ∧ ∃ ns : List Int, vs = ns.map (Value.int .u8) ∧ ns.length = l.length ∧
        ∀ r : ByteArray, ns.foldl (fun r n => r.push (UInt8.ofNat n.toNat)) r = ⟨r.data ++ l.toArray⟩ := by
      intro xs
      induction xs with
      | nil =>
        intro l vs hd hF
        simp only [decBytes, Option.some.injEq] at hd
        simp only [Flat] at hF
        subst hd hF
        exact ⟨by simp, [], rfl, rfl, by simp⟩
      | cons x xs ih =>
        intro l vs hd hF
        simp only [decBytes] at hd
        split at hd
        · rename_i b r hb hr
          simp only [Option.some.injEq] at hd
          subst hd
          obtain ⟨u, r', rfl, h1, h2, h3, h4⟩ := hF
          unfold decByte at hb
          split at hb
          · rename_i n
            simp only [Option.some.injEq] at hb
            subst hb
            simp only [Rep] at h3
            subst h3
            obtain ⟨e1, ns, e2, e3, e4⟩ := ih _ _ hr h4
            refine ⟨?_, n :: ns, by rw [e2]; rfl, by simp [e3], fun r => ?_⟩
            · intro y hy
              rcases List.mem_cons.1 hy with rfl | hy
              · exact ⟨n, rfl⟩
              · exact e1 y hy
            · rw [List.foldl_cons, e4]
              simp [ByteArray.push]
          · simp at hb
        · simp at hd
    obtain ⟨e1, ns, e2, e3, e4⟩ := key xs l vs hd hF
    refine ⟨e1, ns, e2, e3, ?_⟩
    rw [e4]
    simp

theorem fits_b2s {o : Oper} {x : Operand} {T T' e : TypeId} (ho : o.op = .convert T T' x) (hu : P.underlying T = some (.slice e)) (he : P.underlying e = some (.int .u8)) (hu' : P.underlying T' = some .string) {d : Dst} {rx : Ref}
    (hd : chkDstO slots n o.dst d = true) (hx : chkRef slots x rx = true) : OpFits P CS RP slots n o (.b2s d rx) := by
  intro M st a st' h hn hr next Q K
  simp only [runOp] at hr
  obtain ⟨kx, tx⟩ := rd_trep h hx
  split at hr
  · rename_i ow xs hl
    rw [hl] at tx
    split at hr
    · rename_i l hdec
      have hrun : (execOp a.eval o).run P M.w = .ok (.value (.string ⟨l.toArray⟩)) M.w := by
        rcases sl_content h tx with ⟨e1, e2⟩ | ⟨b, p, cap, e1, e2, hE⟩
        · subst e1
          simp only [decBytes, Option.some.injEq] at hdec
          subst hdec
          simp only [execOp, ho, Sem.run_bind, convert, run_underlying hu, run_underlying hu', run_underlying he, Result.andThen_ok, e2, Conv.bytesToString, Sem.run_pure]
          rfl
        · obtain ⟨vs, hF, hA⟩ := hE.flat
          obtain ⟨_, ns, n1, n2, n3⟩ := decBytes_flat hdec hF
          have hld := run_loadCells_list (P := P) M.w ⟨b, p, none⟩ vs (at_list hA)
          have hvl : vs.length = xs.length := by have := hF.length; omega
          rw [hvl, n1] at hld
          have hb := run_bytesToString (P := P) M.w ⟨b, p, none⟩ xs.length cap ns hld
          rw [n3] at hb
          simp only [execOp, ho, Sem.run_bind, convert, run_underlying hu, run_underlying hu', run_underlying he, Result.andThen_ok, e1, hb, Sem.run_pure]
      rw [hrun]
      exact value_pure h hd (rep_trep rfl (by simp [RepV, Rep])) hr rfl K
    · simp at hr
  · simp at hr

end
end Go.VS
