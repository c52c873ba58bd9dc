/- append. -/
import Derived.Test.YtpebcbnkalkikaaVsOp5
set_option linter.unusedVariables false
namespace Go.VS

structure ElemIs (P : Program) (e s eb : Nat) (z : Value) : Prop where
  info : ∃ i, P.info? e = some i ∧ i.size = s ∧ i.bytes = eb ∧ i.zero = some z
  cells : z.cells.size = s

section
variable {P : Program} {CS : CallSem} {RP : FuncId → Option (List AV → Option AV)} {slots : List Nat} {n : Nat} {M : Mem} {st : St} {a : Act}

theorem at_list {w : World} {b o : Nat} {vs : List Value} (h : At w b o vs) : ∀ j v, vs[j]? = some v → w.cell? ((⟨b, o, none⟩ : Addr).add j) = some v := by
  intro j v hj
  rw [addr_add]
  exact h.get hj

theorem encBytes_flat {S : Cells} {G : Lay} {w : World} : ∀ (l : List UInt8), Flat S G w 1 (l.map encByte) (l.map fun b => Value.int .u8 b.toNat)
  | [] => rfl
  | b :: l => ⟨[.int .u8 b.toNat], _, rfl, rfl, by simp [Value.oneCell'], by simp [encByte, Rep], encBytes_flat l⟩

theorem src_of (h : FR M slots n st a) {y : Operand} {ry : Ref} (hc : chkRef slots y ry = true) {s : Nat} {ys : List AV} (hy : elemsOf s (rd st ry) = some ys) {tx : TypeId}
    (hk : (∃ e', P.underlying tx = some (.slice e')) ∨ P.underlying tx = some .string) : ∃ news, Src P s tx (a.eval y) ys.length news M.w ∧ Flat M.S M.G M.w s ys news := by
  obtain ⟨kt, ht⟩ := rd_trep h hc
  unfold elemsOf at hy
  split at hy
  · rename_i ow s' ys' hl
    rw [hl] at ht
    split at hy
    · rename_i hs
      subst hs
      simp only [Option.some.injEq] at hy
      subst hy
      rcases sl_content h ht with ⟨e1, e2⟩ | ⟨b, o, cap, e1, e2, hE⟩
      · subst e1
        refine ⟨[], ⟨hk, fun _ => by rw [e2]; rfl, by rw [e2]; exact run_firstCells_none _ _ _ _ _, by rw [e2]; exact run_firstCells_none _ _ _ _ _, by simp, by simp⟩, rfl⟩
      · obtain ⟨vs, hF, hA⟩ := hE.flat
        refine ⟨vs, ⟨hk, fun _ => by rw [e1]; rfl, ?_, ?_, hF.length, hF.one⟩, hF⟩
        · rw [e1]; exact run_firstCells_some M.w s' ys'.length ⟨b, o, none⟩ _ _ vs hF.length (at_list hA)
        · rw [e1]; exact run_firstCells_some M.w.drew s' ys'.length ⟨b, o, none⟩ _ _ vs hF.length (at_list (At.mono (w := M.w) (w' := M.w.drew) (fun _ _ => rfl) hA))
    · simp at hy
  · rename_i l hl
    rw [hl] at ht
    split at hy
    · rename_i hs
      subst hs
      simp only [Option.some.injEq] at hy
      subst hy
      have hv := ht.str
      have hb : byteCells ⟨l.toArray⟩ = l.map fun b => Value.int .u8 b.toNat := by simp [byteCells]
      have hz : (ByteArray.mk l.toArray).size = l.length := by simp [ByteArray.size]
      refine ⟨byteCells ⟨l.toArray⟩, ⟨hk, fun _ => by rw [hv, List.length_map]; simp [Builtin.lenOf, hz], ?_, ?_, by rw [byteCells_length]; simp [hz], ?_⟩, by rw [hb]; exact encBytes_flat l⟩
      · rw [hv, List.length_map, ← hz]; exact firstCells_string _ _
      · rw [hv, List.length_map, ← hz]; exact firstCells_string _ _
      · rw [hb]; intro u hu
        obtain ⟨_, _, rfl⟩ := List.mem_map.1 hu
        rfl
    · simp at hy
  · simp at hy

theorem append_zero {t tx ty e : TypeId} (ht : P.underlying t = some (.slice e)) {s : Nat} (hs : SizeIs P e s) {x : Value} {w : World} (hsrc : Src P s tx x 0 [] w) (A : Option Addr) :
    (Builtin.append_ #[t, tx] ty #[.slice A 0 0, x]).run P w = .ok (.slice A 0 0) w := by
  obtain ⟨i, h1, h2⟩ := hs
  have hc : (Builtin.firstCells i.size 0 x).run P w = .ok #[] w := by rw [h2]; exact hsrc.cells
  cases A with
  | none => rcases hsrc.kind with ⟨e', hk⟩ | hk <;> simp [Builtin.append_, run_underlying ht, run_underlying hk, sizeOf, typeInfo, h1, hsrc.len, hc]
  | some b => rcases hsrc.kind with ⟨e', hk⟩ | hk <;> simp [Builtin.append_, run_underlying ht, run_underlying hk, sizeOf, typeInfo, h1, hsrc.len, hc, storeCells]

/-- More elements behind what is new. -/
theorem append_new {t tx ty e s eb : Nat} {z : Value} (ht : P.underlying t = some (.slice e)) (he : ElemIs P e s eb z) (heb : eb ≤ 4096) (h : FR M slots n st a) {m : Bool} {xs ys : List AV} {v x : Value}
    (hA : OwnArr M (.r 0) m s xs v) {news : List Value} (hsrc : Src P s tx x ys.length news M.w) (hF : Flat M.S M.G M.w s ys news) (hlim : xs.length + ys.length ≤ lim) :
    ∃ M' v', (Builtin.append_ #[t, tx] ty #[v, x]).run P M.w = .ok v' M'.w ∧ Evo M M' ∧ FR M' slots n st a ∧ OwnArr M' (.r 0) m s (xs ++ ys) v' := by
  obtain ⟨i, hi, hsz, hby, hz⟩ := he.info
  have hSz : SizeIs P e s := ⟨i, hi, hsz⟩
  have hl31 : xs.length + ys.length ≤ 2147483648 := hlim
  -- a new row
  have grow : ∀ {A : Option Addr} {cap : Nat} {olds : List Value}, v = .slice A xs.length cap → (Builtin.firstCells i.size xs.length (.slice A xs.length cap)).run P M.w.drew = .ok olds.toArray M.w.drew →
      Flat M.S M.G M.w s xs olds → cap < xs.length + ys.length →
      ∃ M' v', (Builtin.append_ #[t, tx] ty #[v, x]).run P M.w = .ok v' M'.w ∧ Evo M M' ∧ FR M' slots n st a ∧ OwnArr M' (.r 0) m s (xs ++ ys) v' := by
    intro A cap olds hv hold hFo hlt
    subst hv
    have hsrc' : Src P i.size tx x ys.length news M.w := by rw [hsz]; exact hsrc
    have hfit : Builtin.nextslicecap (xs.length + ys.length) cap * i.bytes ≤ 281474976710656 := by
      have h1 : Builtin.nextslicecap (xs.length + ys.length) cap ≤ 2 * (xs.length + ys.length) := nextslicecap_le hlt
      have h2 : Builtin.nextslicecap (xs.length + ys.length) cap * i.bytes ≤ 4294967296 * 4096 := Nat.mul_le_mul (by omega) (by omega)
      omega
    have hr := run_append_grow_src M.w t tx ty e i z ht hi hz A xs.length cap olds hold x ys.length news hsrc' hlt (by omega) hfit
    generalize hcc : grownCap M.w (xs.length + ys.length) cap e = cc at hr
    have hge : xs.length + ys.length ≤ cc := by rw [← hcc]; exact grownCap_ge _ _ _ _
    let c : Array Value := (olds ++ news).toArray ++ Builtin.zeroCells z.cells (cc - (xs.length + ys.length))
    have hp : Plus M.w (M.w.drew.alloc (.cells c e)) (.cells c e (0, 0)) := Plus.drewAlloc _ _
    have hFa : Flat M.S M.G M.w s (xs ++ ys) (olds ++ news) := hFo.append hF
    have hcs : c.size = cc * s := by
      have : c.size = (olds ++ news).length + (cc - (xs.length + ys.length)) * z.cells.size := by simp [c, size_zeroCells]
      rw [this, hFa.length, he.cells, List.length_append, ← Nat.add_mul]
      congr 1
      omega
    have hne : xs ++ ys ≠ [] := by
      intro e0
      have : (xs ++ ys).length = 0 := by rw [e0]; rfl
      rw [List.length_append] at this
      omega
    have hN := new_arr (key := .r 0) (cap := cc) h.wf hp hFa (fun j u hj => by
        have hlt' : j < (olds ++ news).length := (List.getElem?_eq_some_iff.1 hj).1
        simp only [c]
        rw [Array.getElem?_append_left (by simpa using hlt')]
        simpa using hj) (by simpa using hge) (by omega) (by intro j hj; simp) (fun e0 => absurd e0 hne)
    have hE1 := alloc_evo h.wf hp (.r 0)
    have hF1 := alloc_fr h hp (.r 0)
    have hlen : (xs ++ ys).length = xs.length + ys.length := List.length_append
    cases m with
    | true => exact ⟨_, _, hr, hE1, hF1, by rw [← hlen]; exact hN⟩
    | false =>
      obtain ⟨M2, e1, e2, e3, e4, e5, e6, e7⟩ := hN.settle (alloc_wf h.wf hp)
      refine ⟨M2, _, by rw [e1]; exact hr, hE1.trans e4, ?_, by rw [← hlen]; exact e6⟩
      exact hF1.evolve e4.grow e5 (fun id b hb => by rw [← e3]; exact hb) (fun b k hb hk => ⟨by rw [e2], by rw [e1], fun j hj => e7 b (by rw [hb]; intro e0; exact hk 0 (Option.some.inj e0)) j hj⟩)
  rcases hA with ⟨hx0, hv⟩ | ⟨hne, b, o, cap, hv, hown, hcap, hE, hR, hmt, hmf⟩
  · subst hx0
    by_cases hy0 : ys = []
    · subst hy0
      have hn0 : news = [] := by have := hF; simpa [Flat] using this
      subst hn0
      have hsrc0 : Src P s tx x 0 [] M.w := hsrc
      rcases hv with hv | ⟨b, o, hv⟩
      · exact ⟨M, v, by rw [hv]; exact append_zero ht hSz hsrc0 _, .refl M, h, .inl ⟨rfl, .inl hv⟩⟩
      · exact ⟨M, v, by rw [hv]; exact append_zero ht hSz hsrc0 _, .refl M, h, .inl ⟨rfl, .inr ⟨b, o, hv⟩⟩⟩
    · have hpos : 0 < ys.length := by
        cases ys with
        | nil => exact absurd rfl hy0
        | cons _ _ => simp
      rcases hv with hv | ⟨b, o, hv⟩
      · exact grow (olds := []) hv (run_firstCells_none _ _ _ _ _) rfl (by simpa using hpos)
      · refine grow (olds := []) hv ?_ rfl (by simpa using hpos)
        exact run_firstCells_some _ _ 0 _ _ _ [] (by simp) (by simp)
  · by_cases hroom : xs.length + ys.length ≤ cap
    · obtain ⟨c, et, fr, hc, hRn, hRf⟩ := hR
      have hsrc' : Src P i.size tx x ys.length news M.w := by rw [hsz]; exact hsrc
      have hnl : news.length = ys.length * s := hF.length
      have hbnd : (xs.length + ys.length) * s ≤ cap * s := Nat.mul_le_mul_right s hroom
      rw [Nat.add_mul] at hbnd
      have hcell : ∀ j, j < news.length → (M.w.cell? ⟨b, o + xs.length * s + j, none⟩).isSome = true := by
        intro j hj
        have : o + xs.length * s + j < c.size := by omega
        simp [World.cell?, hc, this]
      have hfz : ∀ j, j < news.length → M.w.frozen? ⟨b, o + xs.length * s + j, none⟩ = false := by
        intro j hj
        have := hRf (o + xs.length * s + j) (by omega)
        simp only [World.frozen?, hc]
        exact this
      have hr := run_append_room_src M.w t tx ty e i ht hi b o xs.length cap x ys.length news hsrc' hroom (by rw [hsz]; exact hcell) (by rw [hsz]; exact hfz)
      rw [hsz] at hr
      -- what has changed
      generalize hw' : M.w.setCells b (o + xs.length * s) news = w' at hr
      have hshape : ∀ (vs : List Value) (q : Nat) (w0 : World), ∃ c', c'.size = (match w0.heap[b]? with | some (.cells c0 _ _) => c0.size | _ => 0) ∧
          ((∃ c0, w0.heap[b]? = some (.cells c0 et fr)) → (w0.setCells b q vs).heap[b]? = some (.cells c' et fr)) ∧ (∀ b', b' ≠ b → (w0.setCells b q vs).heap[b']? = w0.heap[b']?) ∧
          (w0.setCells b q vs).heap.size = w0.heap.size ∧ (w0.setCells b q vs).os = w0.os ∧ (w0.setCells b q vs).tape = w0.tape ∧ (w0.setCells b q vs).output = w0.output := by
        intro vs
        induction vs with
        | nil =>
          intro q w0
          rcases hh : w0.heap[b]? with _ | ob
          · exact ⟨#[], by simp, by simp, fun _ _ => rfl, rfl, rfl, rfl, rfl⟩
          · cases ob with
            | cells c0 e0 f0 =>
              refine ⟨c0, by simp, ?_, fun _ _ => rfl, rfl, rfl, rfl, rfl⟩
              rintro ⟨c1, h1⟩
              simp only [Option.some.injEq, Go.Obj.cells.injEq] at h1
              obtain ⟨rfl, rfl, rfl⟩ := h1
              exact hh
            | _ => exact ⟨#[], by simp, by simp, fun _ _ => rfl, rfl, rfl, rfl, rfl⟩
        | cons v vs ih =>
          intro q w0
          obtain ⟨c', k1, k2, k3, k4, k5, k6, k7⟩ := ih (q + 1) (w0.setCell ⟨b, q, none⟩ v)
          have hs0 : (w0.setCell ⟨b, q, none⟩ v).heap.size = w0.heap.size := by simp [World.setCell]
          have hother : ∀ b', b' ≠ b → (w0.setCell ⟨b, q, none⟩ v).heap[b']? = w0.heap[b']? := fun b' hb' => by
            simp only [World.setCell, Array.getElem?_modify]
            rw [if_neg (Ne.symm hb')]
          have hat : ∀ c0 e0 f0, w0.heap[b]? = some (.cells c0 e0 f0) → (w0.setCell ⟨b, q, none⟩ v).heap[b]? = some (.cells (c0.setIfInBounds q v) e0 f0) := by
            intro c0 e0 f0 h0
            have hbl : b < w0.heap.size := by
              rcases Nat.lt_or_ge b w0.heap.size with hb | hb
              · exact hb
              · rw [Array.getElem?_eq_none hb] at h0; simp at h0
            simp only [World.setCell, Array.getElem?_modify, h0]
            simp
          refine ⟨c', ?_, ?_, fun b' hb' => (k3 b' hb').trans (hother b' hb'), k4.trans hs0, k5, k6, k7⟩
          · rw [k1]
            rcases hh : w0.heap[b]? with _ | ob
            · have : (w0.setCell ⟨b, q, none⟩ v).heap[b]? = none := by
                rw [Array.getElem?_eq_none_iff] at hh ⊢; rw [hs0]; exact hh
              rw [this]
            · cases ob with
              | cells c0 e0 f0 => rw [hat _ _ _ hh]; simp
              | _ =>
                have : (w0.setCell ⟨b, q, none⟩ v).heap[b]? = w0.heap[b]? := by
                  simp only [World.setCell, Array.getElem?_modify, hh]
                  simp
                rw [this, hh]
          · rintro ⟨c0, h0⟩
            exact k2 ⟨_, hat _ _ _ h0⟩
      obtain ⟨c', k1, k2, k3, k4, k5, k6, k7⟩ := hshape news (o + xs.length * s) M.w
      rw [hw'] at k2 k3 k4 k5 k6 k7
      rw [hc] at k1
      simp only at k1
      have hb' : w'.heap[b]? = some (.cells c' et fr) := by
        obtain ⟨e0, hcc⟩ : ∃ c0, M.w.heap[b]? = some (.cells c0 et fr) := ⟨c, hc⟩
        exact k2 ⟨_, hc⟩
      have hout : ∀ j, j < o + xs.length * s ∨ o + xs.length * s + news.length ≤ j → cellAt w' b j = cellAt M.w b j := by
        intro j hj
        rw [← hw']
        exact World.cell?_setCells_out b news _ M.w ⟨b, j, none⟩ (fun _ _ => hj)
      have hin : ∀ j v, news[j]? = some v → cellAt w' b (o + xs.length * s + j) = some v := by
        intro j v hj
        obtain ⟨hlt, he'⟩ := List.getElem?_eq_some_iff.1 hj
        rw [← hw', ← he']
        exact World.cell?_setCells_in b news _ M.w hcell j hlt
      have hlen : (xs ++ ys).length = xs.length + ys.length := List.length_append
      -- no cell that stays is written
      have hSout : ∀ j, M.S b j → j < o + xs.length * s ∨ o + xs.length * s + news.length ≤ j := by
        intro j hs
        cases m with
        | true => exact absurd hs (hmt rfl j)
        | false =>
          rcases Nat.lt_or_ge j (o + xs.length * s) with hlt | hge
          · exact .inl hlt
          · exact absurd hs ((hmf rfl).2 j hge)
      let T : Cells := fun b0 j => m = false ∧ b0 = b ∧ o + xs.length * s ≤ j ∧ j < o + xs.length * s + news.length
      let M' : Mem := { own := M.own, S := fun b0 j => M.S b0 j ∨ T b0 j, G := M.G, w := w' }
      have hgrow : Grow M.S M.G M.w M'.S M'.G M'.w := ⟨fun _ _ h => .inl h, fun _ _ h => h, fun b0 j hs => by
        by_cases hb0 : b0 = b
        · subst hb0; exact hout j (hSout j hs)
        · exact cellAt_of_heap (k3 b0 hb0) j⟩
      have hev : Evo M M' := ⟨hgrow, by show _ ≤ w'.heap.size; rw [k4]; exact Nat.le_refl _, k5, k6, k7, fun b0 hb0 ho0 => k3 b0 (fun e0 => by subst e0; rw [hown] at ho0; simp at ho0), fun _ _ h => h,
        fun b0 j hs => hs.elim .inl fun ht => .inr (.inr (by obtain ⟨_, rfl, _⟩ := ht; rw [hown]; simp))⟩
      have hwf : M'.Wf := by
        refine ⟨fun b0 j hs => ?_, fun b0 k hk => by show b0 < w'.heap.size; rw [k4]; exact h.wf.odom b0 k hk, h.wf.gown⟩
        rcases hs with hs | ⟨_, rfl, h1, h2⟩
        · have := h.wf.sdom b0 j hs
          rw [← hgrow.keep b0 j hs] at this
          exact this
        · have : j < c'.size := by omega
          show (cellAt w' b0 j).isSome = true
          simp [cellAt, World.cell?, hb', this]
      have hfr' : FR M' slots n st a := h.evolve hgrow hwf (fun _ _ h => h) (fun b0 k hk hkr => by
        have hb0 : b0 ≠ b := fun e0 => by subst e0; rw [hown] at hk; exact hkr 0 (Option.some.inj hk).symm
        exact ⟨rfl, k3 b0 hb0, fun j hs => hs.elim id fun ht => absurd ht.2.1 hb0⟩)
      refine ⟨M', _, by rw [hv]; exact hr, hev, hfr', .inr ⟨by simp [hne], b, o, cap, by rw [hlen], hown, by rw [hlen]; exact hroom, ?_, ⟨c', et, fr, hb', by omega, by rw [k1]; exact hRf⟩, fun hm j hs => ?_, fun hm => ⟨fun j hj => ?_, fun j hj hs => ?_⟩⟩⟩
      · refine Els.append (Els.mono hgrow xs o (fun j hj => hout _ (.inl (by omega))) hE) ?_
        refine (hF.mono hgrow).els ?_
        have key : ∀ (vs : List Value) (q : Nat), (∀ j v, vs[j]? = some v → cellAt w' b (q + j) = some v) → At w' b q vs := by
          intro vs
          induction vs with
          | nil => intro q _; trivial
          | cons v vs ih =>
            intro q hj
            refine ⟨by simpa using hj 0 v (by simp), ih (q + 1) (fun j u hu => ?_)⟩
            have := hj (j + 1) u (by simpa using hu)
            rwa [show q + 1 + j = q + (j + 1) by omega]
        exact key news _ hin
      · rcases hs with hs | ⟨hm', _⟩
        · exact hmt hm j hs
        · rw [hm] at hm'; simp at hm'
      · rw [hlen, Nat.add_mul] at hj
        rcases Nat.lt_or_ge j (xs.length * s) with hlt | hge
        · exact .inl ((hmf hm).1 j hlt)
        · exact .inr ⟨hm, rfl, by omega, by omega⟩
      · rw [hlen, Nat.add_mul] at hj
        rcases hs with hs | ⟨_, _, _, h2⟩
        · exact (hmf hm).2 j (by omega) hs
        · omega
    · obtain ⟨vs, hFo, hA⟩ := hE.flat
      refine grow hv ?_ hFo (by omega)
      rw [hsz]
      exact run_firstCells_some M.w.drew s xs.length ⟨b, o, none⟩ _ _ vs hFo.length (at_list (At.mono (w := M.w) (w' := M.w.drew) (fun _ _ => rfl) hA))

end
end Go.VS
