/- Operations: pieces; conversions of bytes; new slices. -/
import Derived.Test.YtpebcbnkalkikaaVsAlloc
set_option linter.unusedVariables false
namespace Go.VS

def chkOpt (slots : List Nat) : Option Operand → Option Ref → Bool
  | none, none => true
  | some o, some r => chkRef slots o r
  | _, _ => false

section
variable {P : Program} {CS : CallSem} {RP : FuncId → Option (List AV → Option AV)} {slots : List Nat} {n : Nat} {M : Mem} {st : St} {a : Act}

/-- A bound of a piece. -/
def BoundIs (v : Option Value) (k : Option Nat) : Prop :=
  match v, k with
  | none, none => True
  | some x, some j => ∃ q i, x = .int q i ∧ 0 ≤ i ∧ i.toNat = j
  | _, _ => False

theorem opt_bound (h : FR M slots n st a) {o : Option Operand} {r : Option Ref} (hc : chkOpt slots o r = true) {k : Option Nat} (hk : optIdx st r = some k) : BoundIs (o.map a.eval) k := by
  cases o with
  | none =>
    cases r with
    | none => simp only [optIdx, Option.some.injEq] at hk; subst hk; trivial
    | some r => simp [chkOpt] at hc
  | some o =>
    cases r with
    | none => simp [chkOpt] at hc
    | some r =>
      simp only [chkOpt] at hc
      obtain ⟨kt, ht⟩ := rd_trep h hc
      simp only [optIdx] at hk
      split at hk
      · rename_i q i hl
        rw [hl] at ht
        split at hk
        · rename_i h0
          simp only [Option.some.injEq] at hk
          subst hk
          exact ⟨q, i, ht.int, h0, rfl⟩
        · simp at hk
      · simp at hk

theorem bound_run {v : Value} {j y : Nat} {q : IntKind} {i : Int} (hv : v = .int q i) (h0 : 0 ≤ i) (hi : i.toNat = j) (hle : j ≤ y) (c : BoundsCode) (w : World) : (Instr.sliceBound v y c).run P w = .ok j w := by
  subst hv
  have : 0 ≤ i ∧ i ≤ (y : Int) := ⟨h0, by omega⟩
  simp [Instr.sliceBound, asIntOf, this, hi]

theorem bounds_run {isS : Bool} {len cap : Nat} {lo hi : Option Value} {l h : Option Nat} (hl : BoundIs lo l) (hh : BoundIs hi h) (h1 : l.getD 0 ≤ h.getD len) (h2 : h.getD len ≤ cap) (w : World) :
    (Instr.sliceBounds isS len cap lo hi none).run P w = .ok (l.getD 0, h.getD len, cap) w := by
  unfold Instr.sliceBounds
  cases lo with
  | none =>
    cases l with
    | some _ => exact hl.elim
    | none =>
      cases hi with
      | none =>
        cases h with
        | some _ => exact hh.elim
        | none => simp
      | some x =>
        cases h with
        | none => exact hh.elim
        | some j =>
          obtain ⟨q, i, e1, e2, e3⟩ := hh
          simp only [Option.getD_some] at h2
          simp [bound_run e1 e2 e3 h2]
  | some y =>
    cases l with
    | none => exact hl.elim
    | some k =>
      obtain ⟨q', i', e4, e5, e6⟩ := hl
      simp only [Option.getD_some] at h1
      cases hi with
      | none =>
        cases h with
        | some _ => exact hh.elim
        | none =>
          simp only [Option.getD_none] at h1
          simp [bound_run e4 e5 e6 h1]
      | some x =>
        cases h with
        | none => exact hh.elim
        | some j =>
          obtain ⟨q, i, e1, e2, e3⟩ := hh
          simp only [Option.getD_some] at h1 h2
          simp [bound_run e1 e2 e3 h2, bound_run e4 e5 e6 h1]

theorem extract_mk (l : List UInt8) (i j : Nat) : (ByteArray.mk l.toArray).extract i j = ⟨((l.drop i).take (j - i)).toArray⟩ := by
  apply ByteArray.ext
  simp

theorem view_sub {s : Nat} {ys : List AV} {v0 : Value} {vo : Nat} {xs : List AV} {A : Option Addr} {cap lo hi : Nat} (hw : View s ys v0 vo xs (.slice A xs.length cap)) (hb : ∃ b o C, (v0 = .slice (some ⟨b, o, none⟩) ys.length C ∧ (ys = [] → C = 0)) ∨ (v0 = .slice none 0 0 ∧ ys = []))
    (h1 : lo ≤ hi) (h2 : hi ≤ xs.length) (h3 : xs.length ≤ cap) :
    View s ys v0 (vo + lo) ((xs.drop lo).take (hi - lo)) (.slice (if cap = lo then A else A.map (·.add (lo * s))) (hi - lo) (cap - lo)) := by
  have hlen : ((xs.drop lo).take (hi - lo)).length = hi - lo := by simp; omega
  by_cases he : hi - lo = 0
  · refine .inr (.inl ⟨by rw [he]; simp, ?_⟩)
    rw [he]
    rcases hw with ⟨e0, e1, e2⟩ | ⟨e1, e2⟩ | ⟨b, o, C, cap', e1, e2, e3, e4, e5, e6⟩
    · subst e0 e1
      obtain ⟨b, o, C, ⟨hb, hC⟩ | ⟨hb, hy⟩⟩ := hb
      · rw [hb] at e2
        simp only [Value.slice.injEq] at e2
        obtain ⟨rfl, _, rfl⟩ := e2
        split
        · exact .inr ⟨b, o, _, rfl, fun e => by have := hC e; omega⟩
        · exact .inr ⟨b, o + lo * s, cap - lo, by simp [addr_add], fun e => by have := hC e; omega⟩
      · rw [hb] at e2
        simp only [Value.slice.injEq] at e2
        obtain ⟨rfl, hx, rfl⟩ := e2
        have : lo = 0 := by omega
        subst this
        exact .inl (by simp)
    · subst e1
      have : lo = 0 := by simp at h2; omega
      subst this
      rcases e2 with e2 | ⟨b, o, cap', e2, e7⟩
      · simp only [Value.slice.injEq] at e2
        obtain ⟨rfl, _, rfl⟩ := e2
        exact .inl (by simp)
      · simp only [Value.slice.injEq] at e2
        obtain ⟨rfl, _, rfl⟩ := e2
        refine .inr ⟨b, o, cap, ?_, e7⟩
        simp [addr_add]
    · simp only [Value.slice.injEq] at e4
      obtain ⟨rfl, _, rfl⟩ := e4
      have hz : ys = [] → C = 0 := by
        intro e
        obtain ⟨b', o', C', ⟨hb, hC⟩ | ⟨hb, hy⟩⟩ := hb
        · rw [e1] at hb
          simp only [Value.slice.injEq] at hb
          rw [hb.2.2]; exact hC e
        · rw [e1] at hb; simp at hb
      split
      · exact .inr ⟨b, o + vo * s, _, rfl, fun e => by have := hz e; omega⟩
      · exact .inr ⟨b, o + vo * s + lo * s, cap - lo, by simp [addr_add], fun e => by have := hz e; omega⟩
  · have hne : cap ≠ lo := by omega
    rw [if_neg hne]
    rcases hw with ⟨e0, e1, e2⟩ | ⟨e1, e2⟩ | ⟨b, o, C, cap', e1, e2, e3, e4, e5, e6⟩
    · subst e0 e1
      obtain ⟨b, o, C, ⟨hb, hC⟩ | ⟨hb, hy⟩⟩ := hb
      · rw [hb] at e2
        simp only [Value.slice.injEq] at e2
        obtain ⟨rfl, _, rfl⟩ := e2
        refine .inr (.inr ⟨b, o, _, cap - lo, hb, by rw [hlen]; omega, by rw [hlen]; simp, by rw [hlen]; simp [addr_add], by rw [hlen]; omega, by omega⟩)
      · subst hy; simp at h2; omega
    · subst e1; simp at h2; omega
    · simp only [Value.slice.injEq] at e4
      obtain ⟨rfl, _, rfl⟩ := e4
      refine .inr (.inr ⟨b, o, C, cap - lo, e1, by rw [hlen]; omega, ?_, by rw [hlen]; simp [addr_add, Nat.add_mul, Nat.add_assoc], by rw [hlen]; omega, by omega⟩)
      rw [hlen]
      conv => lhs; rw [e3]
      rw [List.drop_take, List.take_take, List.drop_drop]
      congr 1
      omega

theorem rep_sub {s : Nat} {xs : List AV} {A : Option Addr} {cap lo hi : Nat} (hR : RepV M.S M.G M.w (.sl .none s xs) (.slice A xs.length cap)) (h1 : lo ≤ hi) (h2 : hi ≤ xs.length) :
    RepV M.S M.G M.w (.sl .none s ((xs.drop lo).take (hi - lo))) (.slice (if cap = lo then A else A.map (·.add (lo * s))) (hi - lo) (cap - lo)) := by
  have hlen : ((xs.drop lo).take (hi - lo)).length = hi - lo := by simp; omega
  simp only [RepV, Rep, List.cons.injEq, and_true] at hR ⊢
  rcases hR with ⟨hv, rfl⟩ | ⟨b, o, cap', hv, hc, hS, hE⟩
  · simp only [Value.slice.injEq] at hv
    obtain ⟨rfl, _, rfl⟩ := hv
    simp at h2
    have : lo = 0 := by omega
    subst this h2
    exact .inl (by simp)
  · simp only [Value.slice.injEq] at hv
    obtain ⟨rfl, _, rfl⟩ := hv
    by_cases he : hi - lo = 0
    · refine .inr ?_
      have hz : (xs.drop lo).take (hi - lo) = [] := by rw [he]; simp
      rw [hz, he]
      split
      · exact ⟨b, o, _, rfl, by simp, by simp, by simp [Els]⟩
      · exact ⟨b, o + lo * s, cap - lo, by simp [addr_add], by simp, by simp, by simp [Els]⟩
    · have hne : cap ≠ lo := by omega
      rw [if_neg hne]
      refine .inr ⟨b, o + lo * s, cap - lo, by rw [hlen]; simp [addr_add], by rw [hlen]; omega, fun j hj => ?_, hE.sub lo (hi - lo)⟩
      rw [hlen] at hj
      have := hS (lo * s + j) (by
        have h6 : (lo + (hi - lo)) * s ≤ xs.length * s := Nat.mul_le_mul_right s (by omega)
        rw [Nat.add_mul] at h6; omega)
      rwa [← Nat.add_assoc] at this

theorem sliceAt_run {T e s : Nat} (hu : P.underlying T = some (.slice e)) (hs : SizeIs P e s) {A : Option Addr} {len cap : Nat} {lo hi : Option Value} {l h : Option Nat} (hl : BoundIs lo l) (hh : BoundIs hi h)
    (h1 : l.getD 0 ≤ h.getD len) (h2 : h.getD len ≤ cap) (w : World) :
    (Instr.sliceAt T (.slice A len cap) lo hi none).run P w = .ok (.slice (if cap = l.getD 0 then A else A.map (·.add (l.getD 0 * s))) (h.getD len - l.getD 0) (cap - l.getD 0)) w := by
  unfold Instr.sliceAt
  rw [Sem.run_bind, run_underlying hu]
  simp only [Result.andThen_ok]
  unfold Instr.slice
  rw [Sem.run_bind, run_underlying hu]
  simp only [Result.andThen_ok, Sem.run_bind, bounds_run hl hh h1 h2, run_sizeOf' hs, Sem.run_pure]

theorem sliceAt_str {T : Nat} (hu : P.underlying T = some .string) {bs : List UInt8} {lo hi : Option Value} {l h : Option Nat} (hl : BoundIs lo l) (hh : BoundIs hi h)
    (h1 : l.getD 0 ≤ h.getD bs.length) (h2 : h.getD bs.length ≤ bs.length) (w : World) :
    (Instr.sliceAt T (.string ⟨bs.toArray⟩) lo hi none).run P w = .ok (.string ⟨((bs.drop (l.getD 0)).take (h.getD bs.length - l.getD 0)).toArray⟩) w := by
  unfold Instr.sliceAt
  rw [Sem.run_bind, run_underlying hu]
  simp only [Result.andThen_ok]
  unfold Instr.slice
  rw [Sem.run_bind, run_underlying hu]
  have hsz : (ByteArray.mk bs.toArray).size = bs.length := by simp [ByteArray.size]
  simp only [Result.andThen_ok, Option.isSome_none, Bool.false_eq_true, if_false, Sem.run_bind, hsz, bounds_run hl hh h1 h2, Sem.run_pure, extract_mk]

theorem fits_slc {o : Oper} {x : Operand} {T : TypeId} {lo hi : Option Operand} (ho : o.op = .slice T x lo hi none) {str : Bool} {s : Nat}
    (hu : match str with | true => P.underlying T = some .string | false => ∃ e, P.underlying T = some (.slice e) ∧ SizeIs P e s) {d : Dst} {rx : Ref} {rl rh : Option Ref} (hd : chkDstO slots n o.dst d = true)
    (hx : chkRef slots x rx = true) (hlo : chkOpt slots lo rl = true) (hhi : chkOpt slots hi rh = true) : OpFits P CS RP slots n o (.slc d str s rx rl rh) := by
  intro M st a st' h hn hr next Q K
  simp only [runOp, runSlc] at hr
  obtain ⟨kx, tx⟩ := rd_trep h hx
  split at hr
  · rename_i l j hl hj
    have bl := opt_bound h hlo hl
    have bh := opt_bound h hhi hj
    split at hr
    · rename_i bs hv
      rw [hv] at tx
      split at hr
      · rename_i h1
        split at hr
        · rename_i h2
          have hrun : (execOp a.eval o).run P M.w = .ok (.value (.string ⟨((bs.drop (l.getD 0)).take (j.getD bs.length - l.getD 0)).toArray⟩)) M.w := by
            simp only [execOp, ho, tx.str, Option.map_none, Sem.run_bind, sliceAt_str hu bl bh h1 h2, Result.andThen_ok, Sem.run_pure]
          rw [hrun]
          exact value_pure h hd (rep_trep rfl (by simp [RepV, Rep])) hr rfl K
        · simp at hr
      · simp at hr
    · rename_i ow s' xs hv
      rw [hv] at tx
      obtain ⟨e, hu, hs⟩ := hu
      split at hr
      · rename_i hss
        subst hss
        split at hr
        · rename_i h1
          split at hr
          · rename_i h2
            obtain ⟨A, cap, hval, hcap, hnil⟩ := (sl_content h tx).val
            have hrun : (execOp a.eval o).run P M.w = .ok (.value (.slice (if cap = l.getD 0 then A else A.map (·.add (l.getD 0 * s'))) (j.getD xs.length - l.getD 0) (cap - l.getD 0))) M.w := by
              simp only [execOp, ho, hval, Option.map_none, Sem.run_bind, sliceAt_run hu hs bl bh h1 (Nat.le_trans h2 hcap), Result.andThen_ok, Sem.run_pure]
            rw [hrun]
            have plainCase : ∀ {M' : Mem} {st1 : St}, Handed M slots n st1 a M' → RepV M'.S M'.G M'.w (.sl .none s' xs) (a.eval x) → put st1 d (.sl .none s' ((xs.drop (l.getD 0)).take (j.getD xs.length - l.getD 0))) = some st' →
                o.upon P a next Q (.ok (.value (.slice (if cap = l.getD 0 then A else A.map (·.add (l.getD 0 * s'))) (j.getD xs.length - l.getD 0) (cap - l.getD 0))) M.w) := by
              intro M' st1 hk hR hp
              rw [hval] at hR
              exact value_ok hk.fr hk.evo hd (rep_trep rfl (rep_sub hR h1 h2)) hp hk.w.symm K
            split at hr
            · rename_i i' off vo m
              simp only [TRep] at tx
              obtain ⟨ys, v0, hO, hw⟩ := tx
              refine value_pure (av := .sl (.of i' off (vo + l.getD 0) m) s' ((xs.drop (l.getD 0)).take (j.getD xs.length - l.getD 0))) h hd ?_ hr rfl K
              simp only [TRep]
              refine ⟨ys, v0, hO, view_sub (hval ▸ hw) ?_ h1 h2 hcap⟩
              rcases h.owner_arr hO with ⟨e1, e2⟩ | ⟨e0, b, p, C, e1, _⟩
              · rcases e2 with e2 | ⟨b, p, e2⟩
                · exact ⟨0, 0, 0, .inr ⟨e2, e1⟩⟩
                · exact ⟨b, p, 0, .inl ⟨by rw [e2, e1]; rfl, fun _ => rfl⟩⟩
              · exact ⟨b, p, C, .inl ⟨e1, fun e => absurd e e0⟩⟩
            · simp at hr
            · rename_i hno1 hno2
              cases rx with
              | t y =>
                simp only [rd] at hv
                simp only [freezeT, hv] at hr
                cases ow with
                | own m =>
                  simp only at hr
                  obtain ⟨M', k1, r1, p1, _⟩ := pers_sound h hx (x := .sl .none s' xs) (st' := kill st y (.sl .none s' xs)) (by simp [pers, hv])
                  exact plainCase k1 r1 hr
                | none => exact plainCase (Handed.refl h) (by simpa [TRep, Has] using tx) hr
                | full => exact plainCase (Handed.refl h) (rep_content_full (by simpa [TRep, Has] using tx)).2 hr
                | of _ _ _ _ => exact absurd rfl (hno1 _ _ _ _)
                | ofg _ _ _ _ => exact absurd rfl (hno2 _ _ _ _)
              | v i' =>
                simp only [freezeT] at hr
                cases ow with
                | own m => exact absurd hv (view_not_own _ _ _ _ _)
                | none => exact plainCase (Handed.refl h) (by simpa [TRep, Has] using tx) hr
                | full => exact plainCase (Handed.refl h) (rep_content_full (by simpa [TRep, Has] using tx)).2 hr
                | of _ _ _ _ => exact absurd rfl (hno1 _ _ _ _)
                | ofg _ _ _ _ => exact absurd rfl (hno2 _ _ _ _)
              | c av =>
                simp only [freezeT] at hr
                cases ow with
                | own m =>
                  simp only [rd] at hv
                  subst hv
                  cases x <;> simp [chkRef, constOk] at hx
                | none => exact plainCase (Handed.refl h) (by simpa [TRep, Has] using tx) hr
                | full => exact plainCase (Handed.refl h) (rep_content_full (by simpa [TRep, Has] using tx)).2 hr
                | of _ _ _ _ => exact absurd rfl (hno1 _ _ _ _)
                | ofg _ _ _ _ => exact absurd rfl (hno2 _ _ _ _)
          · simp at hr
        · simp at hr
      · simp at hr
    · simp at hr
  · simp at hr

end
end Go.VS
