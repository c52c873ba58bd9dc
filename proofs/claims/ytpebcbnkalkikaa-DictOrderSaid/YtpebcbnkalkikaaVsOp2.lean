/- Operations: moves, choices, arithmetic, lengths, indexes, fields, loads. -/
import Derived.Test.YtpebcbnkalkikaaVsOp
set_option linter.unusedVariables false
namespace Go.VS

/-- Keys are told otherwise. -/
def Mem.ren (M : Mem) (f : Key → Key) : Mem := { M with own := fun b => (M.own b).map f }

theorem Mem.ren_own {M : Mem} {f : Key → Key} {b : Nat} {k : Key} (h : M.own b = some k) : (M.ren f).own b = some (f k) := by simp [Mem.ren, h]

theorem Mem.ren_evo (M : Mem) (f : Key → Key) : Evo M (M.ren f) :=
  .ghost rfl (fun _ _ h => h) (fun _ _ h => h) (fun _ h => by simp [Mem.ren, h]) (fun _ _ h => .inl h)

theorem Mem.Wf.ren {M : Mem} (h : M.Wf) {f : Key → Key} (hf : ∀ k, k.isG = true → f k = k) : (M.ren f).Wf where
  sdom := h.sdom
  odom b k hk := by
    simp only [Mem.ren, Option.map_eq_some_iff] at hk
    obtain ⟨j, hj, _⟩ := hk
    exact h.odom b j hj
  gown id b hb := by
    rcases h.gown id b hb with e | e
    · exact .inl (by rw [Mem.ren_own e, hf _ rfl])
    · exact .inr (by rw [Mem.ren_own e, hf _ rfl])

theorem Mem.ren_pres {M : Mem} {f : Key → Key} {b : Nat} {k : Key} (hb : M.own b = some k) (hk : f k = k) : Pres M (M.ren f) b :=
  ⟨by rw [Mem.ren_own hb, hb, hk], rfl, fun _ h => h⟩

theorem OwnArr.ren {M : Mem} {f : Key → Key} {k : Key} {m : Bool} {s : Nat} {xs : List AV} {v : Value} (h : OwnArr M k m s xs v) : OwnArr (M.ren f) (f k) m s xs v := by
  rcases h with h | ⟨hne, b, o, cap, hv, ho, h⟩
  · exact .inl h
  · exact .inr ⟨hne, b, o, cap, hv, Mem.ren_own ho, h⟩

theorem Has.ren {M : Mem} {f : Key → Key} {k : Key} {x : AV} {v : Value} (h : Has M k x v) : Has (M.ren f) (f k) x v := by
  unfold Has at *
  split at h
  · exact h.ren
  · exact h

/-- What temporary y owned is free to go on. -/
def Key.free (y : Nat) : Key → Key
  | .t z k => if z = y then .r k else .t z k
  | k => k

theorem Key.free_same {y : Nat} {k : Key} (h : ¬ k.ofTmp y) : Key.free y k = k := by
  cases k <;> simp_all [Key.free, Key.ofTmp]

section
variable {P : Program} {CS : CallSem} {RP : FuncId → Option (List AV → Option AV)} {slots : List Nat} {n : Nat} {M : Mem} {st : St} {a : Act}

theorem tmp_free (h : FR M slots n st a) {y : Nat} (hy : y ∉ slots) : FR (M.ren (Key.free y)) slots n (kill st y .undef) a :=
  h.tell (M.ren_evo _).grow (h.wf.ren (by intro k hk; cases k <;> simp_all [Key.isG, Key.free])) (fun _ _ h => h)
    (fun b k hb hk _ => Mem.ren_pres hb (Key.free_same hk)) (fun _ => by simp [TRep, Has, RepV])

theorem tmp_own (h : FR M slots n st a) {y : Nat} (hy : y ∉ slots) {m : Bool} {s : Nat} {xs : List AV} (hl : look y st.tmps = .sl (.own m) s xs) :
    OwnArr (M.ren (Key.free y)) (.r 0) m s xs (a.tmps.getD y undef) := by
  have := h.tmps y hy
  rw [hl] at this
  have h2 : OwnArr M (.t y 0) m s xs (a.tmps.getD y undef) := this
  have := h2.ren (f := Key.free y)
  simpa [Key.free] using this

theorem tmp_tup (h : FR M slots n st a) {y : Nat} (hy : y ∉ slots) {vs : List AV} (hl : look y st.tmps = .tup vs) :
    TupRep (M.ren (Key.free y)) (fun k => .r (k + 1)) vs (a.tmps.getD y undef) := by
  have := h.tmps y hy
  rw [hl] at this
  obtain ⟨u, h1, h2, h3⟩ := (this : TupRep M (fun k => .t y (k + 1)) vs (a.tmps.getD y undef))
  refine ⟨u, h1, h2, fun k x hk => ?_⟩
  obtain ⟨z, h4, h5⟩ := h3 k x hk
  have := h5.ren (f := Key.free y)
  exact ⟨z, h4, by simpa [Key.free] using this⟩

theorem chkRef_t {o : Operand} {y : Nat} (h : chkRef slots o (.t y) = true) : o = .tmp y ∧ y ∉ slots := by
  cases o with
  | tmp x =>
    simp only [chkRef, Bool.and_eq_true, beq_iff_eq, Bool.not_eq_true', List.contains_eq_mem, decide_eq_false_iff_not] at h
    obtain ⟨rfl, h⟩ := h
    exact ⟨rfl, h⟩
  | _ => simp [chkRef] at h

theorem view_not_own (i : Nat) (av : AV) (m : Bool) (s : Nat) (xs : List AV) : view i av ≠ .sl (.own m) s xs := by
  cases av with
  | sl o s xs => cases o <;> simp [view]
  | _ => simp [view]

/-- A value that is read, as a new one. -/
theorem rd_new (h : FR M slots n st a) {o : Operand} {r : Ref} (hc : chkRef slots o r = true) (hno : ∀ m s xs, rd st r ≠ .sl (.own m) s xs) (hnt : ∀ vs, rd st r ≠ .tup vs) (kt : Nat → Key) :
    TRep M st.vars st.store (vvOf slots n a) kt (rd st r) (a.eval o) := by
  obtain ⟨kt', ht⟩ := rd_trep h hc
  generalize rd st r = av at *
  unfold TRep Has at *
  (repeat' split at ht) <;> first
    | exact absurd rfl (hnt _)
    | exact absurd rfl (hno _ _ _)
    | exact ht

theorem fits_mv {o : Oper} {x : Operand} (ho : o.op = .move x ∨ o.op = .assign x) {d : Dst} {r : Ref} (hd : chkDstO slots n o.dst d = true) (hc : chkRef slots x r = true) :
    OpFits P CS RP slots n o (.mv d r) := by
  intro M st a st' h hn hr next Q K
  have hrun : (execOp a.eval o).run P M.w = .ok (.value (a.eval x)) M.w := by
    rcases ho with ho | ho <;> simp [execOp, ho]
  rw [hrun]
  cases r with
  | t y =>
    obtain ⟨rfl, hy⟩ := chkRef_t hc
    simp only [runOp] at hr
    split at hr
    · rename_i m s xs hl
      exact value_ok (av := .sl (.own m) s xs) (tmp_free h hy) (M.ren_evo _) hd (tmp_own h hy hl) hr rfl K
    · rename_i vs hl
      exact value_ok (av := .tup vs) (tmp_free h hy) (M.ren_evo _) hd (tmp_tup h hy hl) hr rfl K
    · rename_i h1 h2
      exact value_pure h hd (rd_new h hc (by simpa [rd] using h1) (by simpa [rd] using h2) _) hr rfl K
  | v i =>
    simp only [runOp] at hr
    refine value_pure h hd (rd_new h hc ?_ ?_ _) hr rfl K
    · intro m s xs
      exact view_not_own _ _ _ _ _
    · obtain ⟨kt, ht⟩ := rd_trep h hc
      intro vs e
      simp only [rd] at e
      unfold view at e
      split at e <;> try simp at e
      cases x <;> simp [chkRef] at hc
      obtain ⟨av, h1, h2, _⟩ := h.var hc
      simp only [h1, Option.getD_some] at e
      subst e
      simp [VRep, Has, RepV, Rep] at h2
  | c av =>
    simp only [runOp] at hr
    have hpl : plain av = true := by
      cases x <;> simp [chkRef] at hc
      · exact (constOk_rep (S := M.S) (G := M.G) (w := M.w) hc).2
      · cases av <;> simp_all [plain]
    refine value_pure h hd (rd_new h hc ?_ ?_ _) hr rfl K
    · intro m s xs e; simp only [rd] at e; subst e; simp [plain] at hpl
    · intro vs e; simp only [rd] at e; subst e; simp [plain] at hpl

theorem fits_pick {o : Oper} {x y z : Operand} (ho : o.op = .pick x y z) {d : Dst} {rx ry rz : Ref} (hd : chkDstO slots n o.dst d = true)
    (hx : chkRef slots x rx = true) (hy : chkRef slots y ry = true) (hz : chkRef slots z rz = true) : OpFits P CS RP slots n o (.pick d rx ry rz) := by
  intro M st a st' h hn hr next Q K
  simp only [runOp] at hr
  split at hr
  · rename_i t ht
    obtain ⟨kt, hb⟩ := rd_trep h hx
    rw [ht] at hb
    have hv := hb.bool
    have hrun : (execOp a.eval o).run P M.w = .ok (.value (if t then a.eval y else a.eval z)) M.w := by
      simp [execOp, ho, hv, asBool]
    rw [hrun]
    cases t with
    | true =>
      simp only [if_true] at hr ⊢
      split at hr
      · rename_i v st1 hp
        obtain ⟨M1, k1, r1, p1, _⟩ := pers_sound h hy hp
        exact value_ok k1.fr k1.evo hd (rep_trep p1 r1) hr k1.w.symm K
      · simp at hr
    | false =>
      simp only [Bool.false_eq_true, if_false] at hr ⊢
      split at hr
      · rename_i v st1 hp
        obtain ⟨M1, k1, r1, p1, _⟩ := pers_sound h hz hp
        exact value_ok k1.fr k1.evo hd (rep_trep p1 r1) hr k1.w.symm K
      · simp at hr
  · simp at hr

theorem fits_bin {o : Oper} {op : BinOp} {T T' : TypeId} {x y : Operand} (ho : o.op = .binOp op T x y T') {d : Dst} {rx ry : Ref} (hd : chkDstO slots n o.dst d = true)
    (hx : chkRef slots x rx = true) (hy : chkRef slots y ry = true) : OpFits P CS RP slots n o (.bin d op rx ry) := by
  intro M st a st' h hn hr next Q K
  simp only [runOp] at hr
  split at hr
  · rename_i r hb
    obtain ⟨kx, tx⟩ := rd_trep h hx
    obtain ⟨ky, ty⟩ := rd_trep h hy
    obtain ⟨v, h1, h2, h3⟩ := binop_run (P := P) hb T M.w (vx := a.eval x) (vy := a.eval y) (fun k i e => by rw [e] at tx; exact tx.int) (fun l e => by rw [e] at tx; exact tx.str)
      (fun k i e => by rw [e] at ty; exact ty.int) (fun l e => by rw [e] at ty; exact ty.str) x y
    have hrun : (execOp a.eval o).run P M.w = .ok (.value v) M.w := by
      simp only [execOp, ho]
      show (((do eqGuard op T x y (a.eval x) (a.eval y); binOp op T (a.eval x) (a.eval y) : Sem Value)) >>= fun s => pure (Next.value s)).run P M.w = _
      rw [Sem.run_bind, h1]
      rfl
    rw [hrun]
    exact value_pure h hd (rep_trep h2 (h3 _ _ _)) hr rfl K
  · simp at hr

theorem fits_un {o : Oper} {op : UnOp} {T : TypeId} {x : Operand} (ho : o.op = .unOp op T x) {d : Dst} {rx : Ref} (hd : chkDstO slots n o.dst d = true)
    (hx : chkRef slots x rx = true) : OpFits P CS RP slots n o (.un d op rx) := by
  intro M st a st' h hn hr next Q K
  simp only [runOp] at hr
  split at hr
  · rename_i r hb
    obtain ⟨kx, tx⟩ := rd_trep h hx
    obtain ⟨v, h1, h2, h3⟩ := unop_run (P := P) hb M.w (vx := a.eval x) (fun k i e => by rw [e] at tx; exact tx.int) (fun b e => by rw [e] at tx; exact tx.bool)
    have hrun : (execOp a.eval o).run P M.w = .ok (.value v) M.w := by
      simp [execOp, ho, h1]
    rw [hrun]
    exact value_pure h hd (rep_trep h2 (h3 _ _ _)) hr rfl K
  · simp at hr

theorem run_resolve_builtin {ρ : Operand → Value} {b : Builtin} {args : Array Operand} {ts : Array TypeId} {T : TypeId} (w : World) :
    (resolve ρ { callee := .builtin b, args := args, argTypes := ts } T).run P w =
      .ok { target := .builtin b ts T (args.map fun | .const _ => true | _ => false), args := args.map ρ } w := rfl

theorem SlC.val {s : Nat} {xs : List AV} {v : Value} (h : SlC M s xs v) : ∃ a cap, v = .slice a xs.length cap ∧ xs.length ≤ cap ∧ (a = none → cap = 0) := by
  rcases h with ⟨rfl, h⟩ | ⟨b, o, cap, h, hc, _⟩
  · exact ⟨none, 0, h, Nat.le_refl _, fun _ => rfl⟩
  · exact ⟨_, cap, h, hc, fun e => by simp at e⟩

theorem len_str {T T' : TypeId} {ts : Array TypeId} (hT : ts[0]? = some T) (hu : P.underlying T = some .string) (l : List UInt8) (w : World) :
    (Builtin.len_ ts T' #[.string ⟨l.toArray⟩]).run P w = .ok (.int .i64 l.length) w := by
  unfold Builtin.len_
  rw [hT]
  show (underlying T >>= _).run P w = _
  rw [Sem.run_bind, run_underlying hu]
  rfl

theorem len_sl {T T' e : TypeId} {ts : Array TypeId} (hT : ts[0]? = some T) (hu : P.underlying T = some (.slice e)) (b : Option Addr) (k cap : Nat) (w : World) :
    (Builtin.len_ ts T' #[.slice b k cap]).run P w = .ok (.int .i64 k) w := by
  unfold Builtin.len_
  rw [hT]
  show (underlying T >>= _).run P w = _
  rw [Sem.run_bind, run_underlying hu]
  rfl

theorem fits_len {o : Oper} {x : Operand} {T : TypeId} {ts : Array TypeId} (ho : o.op = .call { callee := .builtin .len, args := #[x], argTypes := ts }) (hT : ts[0]? = some T) {str : Bool}
    (hu : match str with | true => P.underlying T = some .string | false => ∃ e, P.underlying T = some (.slice e)) {d : Dst} {rx : Ref} (hd : chkDstO slots n o.dst d = true)
    (hx : chkRef slots x rx = true) : OpFits P CS RP slots n o (.len d str rx) := by
  intro M st a st' h hn hr next Q K
  simp only [runOp] at hr
  obtain ⟨kx, tx⟩ := rd_trep h hx
  split at hr
  · rename_i l hl
    rw [hl] at tx
    have hrun : (execOp a.eval o).run P M.w = .ok (.value (.int .i64 l.length)) M.w := by
      simp only [execOp, ho, Sem.run_bind, run_resolve_builtin, Result.andThen_ok, invoke, builtin]
      rw [show (#[x].map a.eval) = #[.string ⟨l.toArray⟩] by simp [tx.str], len_str hT hu]
      rfl
    rw [hrun]
    exact value_pure h hd (rep_trep rfl (by simp [RepV, Rep])) hr rfl K
  · rename_i ow s xs hl
    rw [hl] at tx
    obtain ⟨a', cap, hv, _⟩ := (sl_content h tx).val
    obtain ⟨e, hu⟩ := hu
    have hrun : (execOp a.eval o).run P M.w = .ok (.value (.int .i64 xs.length)) M.w := by
      simp only [execOp, ho, Sem.run_bind, run_resolve_builtin, Result.andThen_ok, invoke, builtin]
      rw [show (#[x].map a.eval) = #[.slice a' xs.length cap] by simp [hv], len_sl hT hu]
      rfl
    rw [hrun]
    exact value_pure h hd (rep_trep rfl (by simp [RepV, Rep])) hr rfl K
  · simp at hr

theorem fits_idx {o : Oper} {x i : Operand} {T : TypeId} (ho : o.op = .index T x i) (hu : P.underlying T = some .string) {d : Dst} {rx ri : Ref} (hd : chkDstO slots n o.dst d = true)
    (hx : chkRef slots x rx = true) (hi : chkRef slots i ri = true) : OpFits P CS RP slots n o (.idx d rx ri) := by
  intro M st a st' h hn hr next Q K
  simp only [runOp] at hr
  obtain ⟨kx, tx⟩ := rd_trep h hx
  obtain ⟨ki, ti⟩ := rd_trep h hi
  split at hr
  · rename_i l k j hl hj
    rw [hl] at tx
    rw [hj] at ti
    split at hr
    · rename_i h0
      split at hr
      · rename_i b hb
        obtain ⟨hlt, hbe⟩ := List.getElem?_eq_some_iff.1 hb
        have hg : (ByteArray.mk l.toArray)[j.toNat]? = some b := by
          simp only [getElem?_def, ByteArray.size, List.size_toArray, hlt, dif_pos, Option.some.injEq]
          show (l.toArray)[j.toNat] = b
          simpa using hbe
        have hrun : (execOp a.eval o).run P M.w = .ok (.value (.int .u8 b.toNat)) M.w := by
          simp only [execOp, ho, Sem.run_bind, Instr.index, tx.str, ti.int, asIntOf, Sem.run_pure, Result.andThen_ok, run_underlying hu, if_pos h0]
          rw [hg]
          rfl
        rw [hrun]
        exact value_pure h hd (rep_trep rfl (by simp [encByte, RepV, Rep])) hr rfl K
      · simp at hr
    · simp at hr
  · simp at hr

theorem fits_nck {o : Oper} {x : Operand} (ho : o.op = .nilCheck x) {d : Dst} {rx : Ref} (hd : chkDstO slots n o.dst d = true)
    (hx : chkRef slots x rx = true) : OpFits P CS RP slots n o (.nck d rx) := by
  intro M st a st' h hn hr next Q K
  simp only [runOp] at hr
  obtain ⟨kx, tx⟩ := rd_trep h hx
  split at hr
  · rename_i j off hl
    rw [hl] at tx
    have tx' := tx
    simp only [TRep] at tx
    obtain ⟨b, cs, h1, h2, h3⟩ := tx
    have hrun : (execOp a.eval o).run P M.w = .ok (.value (a.eval x)) M.w := by
      simp [execOp, ho, h3]
    rw [hrun]
    exact value_pure (av := .lptr j off) h hd tx' hr rfl K
  · rename_i id off hl
    rw [hl] at tx
    have tx' := tx
    simp only [TRep, Has, RepV, Rep, List.cons.injEq, and_true] at tx
    obtain ⟨b, h1, h3⟩ := tx
    have hrun : (execOp a.eval o).run P M.w = .ok (.value (a.eval x)) M.w := by
      simp [execOp, ho, h3]
    rw [hrun]
    exact value_pure (av := .ptr id off) h hd tx' hr rfl K
  · simp at hr

theorem fits_cvi {o : Oper} {x : Operand} {T T' : TypeId} {k : IntKind} (ho : o.op = .convert T T' x) (hu : ∃ e, P.underlying T = some e) (hu' : P.underlying T' = some (.int k)) {d : Dst} {rx : Ref}
    (hd : chkDstO slots n o.dst d = true) (hx : chkRef slots x rx = true) : OpFits P CS RP slots n o (.cvi d k rx) := by
  intro M st a st' h hn hr next Q K
  simp only [runOp] at hr
  obtain ⟨kx, tx⟩ := rd_trep h hx
  split at hr
  · rename_i j i hl
    rw [hl] at tx
    obtain ⟨e, hu⟩ := hu
    have hrun : (execOp a.eval o).run P M.w = .ok (.value (.int k (k.wrap i))) M.w := by
      simp [execOp, ho, convert, run_underlying hu, run_underlying hu', tx.int, Conv.intToInt]
    rw [hrun]
    exact value_pure h hd (rep_trep rfl (by simp [RepV, Rep])) hr rfl K
  · simp at hr

theorem fits_ext {o : Oper} {x k : Nat} (ho : o.op = .extract (.tmp x) k) {d : Dst} (hd : chkDstO slots n o.dst d = true) (hx : x ∉ slots) : OpFits P CS RP slots n o (.ext d x k) := by
  intro M st a st' h hn hr next Q K
  simp only [runOp] at hr
  split at hr
  · rename_i vs hl
    split at hr
    · rename_i v hv
      have ht := h.tmps x hx
      rw [hl] at ht
      obtain ⟨u, h1, h2, h3⟩ := (ht : TupRep M (fun k => .t x (k + 1)) vs (a.tmps.getD x undef))
      obtain ⟨z, h4, h5⟩ := h3 k v hv
      have hrun : (execOp a.eval o).run P M.w = .ok (.value z) M.w := by
        simp only [execOp, ho, Sem.run_bind, Act.eval, h1, Instr.extract, h4]
        rfl
      rw [hrun]
      let f : Key → Key := fun q => if q = .t x (k + 1) then .r 0 else q
      have hf : ∀ q, q ≠ .t x (k + 1) → f q = q := fun q hq => if_neg hq
      have hfr : FR (M.ren f) slots n (kill st x (.tup (vs.set k .undef))) a := by
        refine h.tell (M.ren_evo _).grow (h.wf.ren (by intro q hq; exact hf q (by intro e; subst e; simp [Key.isG] at hq))) (fun _ _ h => h)
          (fun b q hb hq _ => Mem.ren_pres hb (hf q (by intro e; subst e; exact hq rfl))) (fun _ => ?_)
        refine ⟨u, h1, by simp [h2], fun j y hj => ?_⟩
        by_cases e : j = k
        · subst e
          have hlt : j < vs.length := (List.getElem?_eq_some_iff.1 hv).1
          have : y = .undef := by simpa [List.getElem?_set, hlt] using hj.symm
          subst this
          exact ⟨z, h4, by simp [Has, RepV]⟩
        · have hj' : vs[j]? = some y := by simpa [List.getElem?_set, Ne.symm e] using hj
          obtain ⟨z', h6, h7⟩ := h3 j y hj'
          refine ⟨z', h6, ?_⟩
          have := h7.ren (f := f)
          rwa [hf _ (by simp [e])] at this
      refine value_ok hfr (M.ren_evo _) hd ?_ hr rfl K
      have := h5.ren (f := f)
      simp only [f, if_true] at this
      have hh : Has (M.ren f) (.r 0) v z := this
      have hv' : ∀ o' s xs, v = .sl o' s xs → o' = .none ∨ o' = .full ∨ ∃ m, o' = .own m := by
        intro o' s xs e
        subst e
        cases o' <;> simp_all [Has, RepV, Rep]
      unfold TRep
      split
      · simp [Has, RepV, Rep] at hh
      · rcases hv' _ _ _ rfl with e | e | ⟨m, e⟩ <;> simp at e
      · rcases hv' _ _ _ rfl with e | e | ⟨m, e⟩ <;> simp at e
      · simp [Has, RepV, Rep] at hh
      · simp [Has, RepV, Rep] at hh
      · simp [Has, RepV, Rep] at hh
      · exact hh
    · simp at hr
  · simp at hr

end
end Go.VS
