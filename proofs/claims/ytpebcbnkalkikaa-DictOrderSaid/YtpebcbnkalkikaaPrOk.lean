/- The library's functions keep to what the interpreter says of them: slices.Sorted over slices.Values. -/
import Derived.Test.YtpebcbnkalkikaaVsCall
import Derived.Test.YtpebcbnkalkikaaVsPrim
import Derived.Test.YtpebcbnkalkikaaPrSort
import Derived.Test.YtpebcbnkalkikaaPrClone
import Derived.Shelf.Slices.CompactS
import Derived.Test.YtpebcbnkalkikaaVsAlloc
set_option linter.unusedVariables false
namespace Go.VS
open Go.Proofs Go.RowKit Go.Sort

/-- A world that has grown, a block of it owned. -/
theorem below_evo {M : Mem} (wf : M.Wf) {w' : World} (hb : Below M.w.heap.size M.w w') {g : Nat} (hg : M.w.heap.size ≤ g) (hl : g < w'.heap.size) (k : Key) :
    Evo M (M.alloc w' g k) ∧ ((∀ id, k ≠ .gb id ∧ k ≠ .mp id) → (M.alloc w' g k).Wf) ∧ ∀ b q, M.own b = some q → Pres M (M.alloc w' g k) b := by
  have hcell : ∀ b j, M.S b j → cellAt w' b j = cellAt M.w b j := fun b j hs => cellAt_of_heap (hb.block b (wf.slt hs)) j
  have hne : ∀ b, b < M.w.heap.size → b ≠ g := fun b h => by omega
  refine ⟨⟨⟨fun _ _ h => h, fun _ _ h => h, hcell⟩, hb.size, hb.os, hb.tape, hb.output, fun b h _ => hb.block b h, fun b h ho => ?_, fun b j h => .inl h⟩, fun _ => ⟨fun b j hs => ?_, fun b q hq => ?_, fun id b hG => ?_⟩, fun b q hq => ⟨?_, hb.block b (wf.odom b q hq), fun _ h => h⟩⟩
  · simp only [Mem.alloc, if_neg (hne b h), ho]
  · show (cellAt w' b j).isSome = true
    rw [hcell b j hs]; exact wf.sdom b j hs
  · simp only [Mem.alloc] at hq
    split at hq
    · rename_i e; subst e; exact hl
    · exact Nat.lt_of_lt_of_le (wf.odom b q hq) hb.size
  · have hlt : b < M.w.heap.size := by
      rcases wf.gown id b hG with e | e <;> exact wf.odom b _ e
    simp only [Mem.alloc, if_neg (hne b hlt)]
    exact wf.gown id b hG
  · simp only [Mem.alloc, if_neg (hne b (wf.odom b q hq))]

theorem below_evo0 {M : Mem} (wf : M.Wf) {w' : World} (hb : Below M.w.heap.size M.w w') : Evo M { M with w := w' } ∧ ({ M with w := w' } : Mem).Wf ∧ ∀ b q, M.own b = some q → Pres M { M with w := w' } b := by
  have hcell : ∀ b j, M.S b j → cellAt w' b j = cellAt M.w b j := fun b j hs => cellAt_of_heap (hb.block b (wf.slt hs)) j
  refine ⟨⟨⟨fun _ _ h => h, fun _ _ h => h, hcell⟩, hb.size, hb.os, hb.tape, hb.output, fun b h _ => hb.block b h, fun b h ho => ho, fun b j h => .inl h⟩, ⟨fun b j hs => ?_, fun b q hq => Nat.lt_of_lt_of_le (wf.odom b q hq) hb.size, fun id b hG => wf.gown id b hG⟩, fun b q hq => ⟨rfl, hb.block b (wf.odom b q hq), fun _ h => h⟩⟩
  show (cellAt w' b j).isSome = true
  rw [hcell b j hs]; exact wf.sdom b j hs

theorem els_strs {S : Cells} {G : Lay} {w : World} {b o : Nat} {xs : List AV} (h : Els S G w b 1 o xs) (hs : isStrs xs = true) : ∀ j, j < xs.length → w.cell? ⟨b, o + j, none⟩ = some (encStr ((xs.map strOf)[j]?.getD [])) := by
  intro j hj
  have hx : xs[j]? = some (.str ((xs.map strOf)[j]?.getD [])) := by
    have e := isStrs_iff hs
    have hj' : j < (xs.map strOf).length := by simpa using hj
    conv => lhs; rw [e]
    simp [hj]
  obtain ⟨vs, h1, h2, h3⟩ := h.get hx
  simp only [Rep] at h3
  subst h3
  have := h2.1
  simpa [cellAt, encStr] using this

theorem strs_els {S : Cells} {G : Lay} {w : World} {b : Nat} : ∀ {l : List (List UInt8)} {o : Nat}, (∀ j x, l[j]? = some x → cellAt w b (o + j) = some (encStr x)) → Els S G w b 1 o (l.map .str)
  | [], _, _ => by simp [Els]
  | x :: l, o, h => by
    refine ⟨⟨[encStr x], rfl, ⟨by simpa using h 0 x rfl, trivial⟩, by simp [Rep, encStr]⟩, strs_els fun j y hj => ?_⟩
    have := h (j + 1) y (by simpa using hj)
    rwa [show o + (j + 1) = o + 1 + j by omega] at this

/-- A new row of strings is owned. -/
theorem ownsRow_arr {M : Mem} {w' : World} {t : TypeId} {v : Value} {l : List (List UInt8)} (wf : M.Wf) (h : w'.ownsRow M.w.heap.size t 1 v l.length (l.map encStr)) (hnil : v = .slice none 0 0 ↔ l = []) (hb : Below M.w.heap.size M.w w') :
    ∃ M', M'.w = w' ∧ Evo M M' ∧ M'.Wf ∧ (∀ b q, M.own b = some q → Pres M M' b) ∧ M'.G = M.G ∧ OwnArr M' (.r 0) true 1 (l.map .str) v := by
  rcases h.2 with ⟨hv, hn⟩ | ⟨g, cap, cur, hv, hg, hc, h1, h2, h3, h4⟩
  · have hl : l = [] := List.eq_nil_of_length_eq_zero hn
    subst hl
    obtain ⟨e, wf', p⟩ := below_evo0 wf hb
    exact ⟨_, rfl, e, wf', p, rfl, .inl ⟨rfl, .inl hv⟩⟩
  · have hne : l ≠ [] := by
      intro e
      rw [hnil.2 e] at hv
      simp at hv
    have hlt : g < w'.heap.size := (Array.getElem?_eq_some_iff.1 hc).1
    obtain ⟨e, wf', p⟩ := below_evo wf hb hg hlt (.r 0)
    have hS : ∀ j, ¬ M.S g j := fun j hs => by have := wf.slt hs; omega
    refine ⟨_, rfl, e, wf' (by simp), p, rfl, .inr ⟨by simpa using hne, g, 0, cap, by simpa using hv, alloc_own, by simpa using h1, strs_els fun j x hj => ?_, ⟨cur, t, (0, 0), hc, by simp [h3], by simp⟩, fun _ => hS, fun h => by simp at h⟩⟩
    have hjl : j < l.length := (List.getElem?_eq_some_iff.1 hj).1
    have : (cur.toList.take (l.length * 1))[j]? = some (encStr x) := by rw [h4]; simp [hj]
    rw [List.getElem?_take] at this
    simp only [Nat.mul_one, if_pos hjl] at this
    simp only [cellAt, World.cell?, Mem.alloc, hc]
    simpa using this

theorem values_gives {w : World} {b : Nat} {sv : Value} {zs : List (List UInt8)} (hlen : zs.length ≤ lim) (hB : b < w.heap.size) (hc : w.cell? ⟨b, 0, none⟩ = some sv)
    (hs : (sv = .slice none 0 0 ∧ zs = []) ∨ ∃ b' o cap, sv = .slice (some ⟨b', o, none⟩) zs.length cap ∧ (0 < zs.length → b' < w.heap.size) ∧ ∀ j, j < zs.length → w.cell? ⟨b', o + j, none⟩ = some (encStr (zs[j]?.getD []))) :
    GivesB Fence.wide 2 Try.prog 27 #[.pointer (some ⟨b, 0, none⟩)] encStr (fun ss => ss = zs) zs.length w := by
  intro l J W hW hJB hJ hY h0
  have hc' := (hW.cell (p := ⟨b, 0, none⟩) hB).trans hc
  rcases hs with ⟨rfl, rfl⟩ | ⟨b', o, cap, rfl, hb', hcs⟩
  · exact (Try.values1_nil_in Fence.wide 2 trivial rfl l b J W hc' h0).mono fun e W' ⟨he, hj⟩ => ⟨he, [], rfl, hj⟩
  · refine (Try.values1_in Fence.wide 2 trivial rfl (by omega) l b w.heap.size b' o zs.length cap zs (by simp [lim] at hlen; omega) hb' J (fun pre x W1 hj hp => (hY pre x W1 hj hp).mono fun e W' ⟨e1, e2, e3⟩ => ?_) W hc' (fun j hj => ?_) h0).mono ?_
    · refine ⟨e1, e2, ?_⟩
      have k1 := hJB _ _ hj
      have k2 := hJB _ _ e2
      exact ⟨k2.os.trans k1.os.symm, k2.tape.trans k1.tape.symm, k2.output.trans k1.output.symm, e3.size, fun k hk => (k2.block k hk).trans (k1.block k hk).symm⟩
    · exact (hW.cell (p := ⟨b', o + j, none⟩) (hb' (by omega))).trans (hcs j hj)
    · rintro e W' ⟨he, hj⟩
      exact ⟨he, _, rfl, by rw [Try.upto_all] at hj; exact hj⟩

theorem ok_sorted : FnOk Try.prog (fun _ vs store => pSortedS 27 vs store) 13 := by
  intro M vs args store r store' wf ho hA hS hr
  simp only [pSortedS] at hr
  split at hr
  · rename_i g' xs
    split at hr
    · rename_i hg
      subst hg
      split at hr
      · rename_i hstr
        split at hr
        · rename_i hlim
          simp only [Option.some.injEq, Prod.mk.injEq] at hr
          obtain ⟨rfl, rfl⟩ := hr
          refine ⟨⟨_, Try.func13, rfl, by kernel_rfl⟩, ?_⟩
          obtain ⟨hl, hx⟩ := hA
          obtain ⟨_, v, hv, hh⟩ := hx 0 _ rfl
          have hargs : args = [v] := by
            cases args with
            | nil => simp at hv
            | cons a r =>
              simp only [List.length_cons, List.length_nil] at hl
              have : r = [] := List.length_eq_zero_iff.1 (by omega)
              subst this
              simpa using hv
          subst hargs
          simp only [Has, RepV, Rep, List.cons.injEq, and_true] at hh
          obtain ⟨b, sv, rfl, hSb, hcb, hsv⟩ := hh
          have hB := wf.slt hSb
          have hgives : GivesB Fence.wide 2 Try.prog 27 #[.pointer (some ⟨b, 0, none⟩)] encStr (fun ss => ss = xs.map strOf) (xs.map strOf).length M.w := by
            refine values_gives (by simpa using hlim) hB hcb ?_
            rcases hsv with ⟨e1, e2⟩ | ⟨b', o, cap, e1, e2, e3, e4⟩
            · exact .inl ⟨e1, by simp [e2]⟩
            · refine .inr ⟨b', o, cap, by simpa using e1, fun h => wf.slt (e3 0 (by simpa using h)), fun j hj => els_strs e4 hstr j (by simpa using hj)⟩
          have cS := VsZ.sorted_in Try.sortedA Fence.wide 5 trivial trivial trivial trivial rfl (by omega) (Try.sortsA _) (enters_of Try.func26 (by kernel_rfl) rfl) 27 #[.pointer (some ⟨b, 0, none⟩)] trivial (enters_of Try.func27 (by kernel_rfl) rfl) _ _ (show _ ≤ maxLen by simp [lim, maxLen] at *; omega) (by simp [lim] at *; omega) _ hgives
          change CallsIn _ _ Try.prog 13 _ _ _ at cS
          refine (callsIn_wide.1 cS).mono ?_
          rintro e w' ⟨v, ss, rfl, rfl, hrow, hnil, hb⟩
          rw [sortS_eq] at hrow
          obtain ⟨M', e1, e2, e3, e4, e5, e6⟩ := ownsRow_arr (l := sortS (xs.map strOf)) wf (by rw [sortS_length]; exact hrow) (by rw [hnil]; constructor <;> intro h <;> (apply List.eq_nil_of_length_eq_zero; have := sortS_length (xs.map strOf); simp_all)) hb
          refine ⟨v, M', rfl, e1.symm, e2, e3, ?_, ?_⟩
          · exact e6
          · exact StoreRep.pres e2.grow (fun id b h => by rw [e5] at h; exact h) (fun b k h _ => e4 b k h) hS
        · simp at hr
      · simp at hr
    · simp at hr
  · simp at hr

theorem args_one {args : List Value} {v : Value} (hl : args.length = 1) (hv : args[0]? = some v) : args = [v] := by
  cases args with
  | nil => simp at hv
  | cons a r =>
    simp only [List.length_cons] at hl
    have : r = [] := List.length_eq_zero_iff.1 (by omega)
    subst this
    simpa using hv

/-- A new row is owned. -/
theorem ownsRow_flat {M : Mem} {w' : World} {t : TypeId} {v : Value} {xs : List AV} {vs : List Value} (wf : M.Wf) (h : w'.ownsRow M.w.heap.size t 1 v xs.length vs) (hne : xs ≠ []) (hF : Flat M.S M.G M.w 1 xs vs) (hb : Below M.w.heap.size M.w w') :
    ∃ M', M'.w = w' ∧ Evo M M' ∧ M'.Wf ∧ (∀ b q, M.own b = some q → Pres M M' b) ∧ M'.G = M.G ∧ OwnArr M' (.r 0) true 1 xs v := by
  rcases h.2 with ⟨hv, hn⟩ | ⟨g, cap, cur, hv, hg, hc, h1, h2, h3, h4⟩
  · exact absurd (List.eq_nil_of_length_eq_zero hn) hne
  · have hlt : g < w'.heap.size := (Array.getElem?_eq_some_iff.1 hc).1
    obtain ⟨e, wf', p⟩ := below_evo wf hb hg hlt (.r 0)
    have hS : ∀ j, ¬ M.S g j := fun j hs => by have := wf.slt hs; omega
    refine ⟨_, rfl, e, wf' (by simp), p, rfl, .inr ⟨hne, g, 0, cap, hv, alloc_own, h1, ?_, ⟨cur, t, (0, 0), hc, by simp [h3], by simp⟩, fun _ => hS, fun h => by simp at h⟩⟩
    refine (hF.mono e.grow).els ?_
    refine at_of_block (c := cur) hc vs 0 fun j u hj => ?_
    have := hF.length
    have hjl : j < vs.length := (List.getElem?_eq_some_iff.1 hj).1
    rw [← h4, List.getElem?_take] at hj
    split at hj
    · simpa using hj
    · simp at hj

theorem clone_ok {M : Mem} {xs : List AV} {v : Value} (wf : M.Wf) (hlim : xs.length ≤ lim) (hv : SlC M 1 xs v) (hz : xs = [] → v = .slice none 0 0 ∨ ∃ a cap, v = .slice (some a) 0 cap) :
    Calls Try.prog 31 #[v] M.w fun e w' => ∃ v' M', e = .returned v' ∧ M'.w = w' ∧ Evo M M' ∧ M'.Wf ∧ (∀ b q, M.own b = some q → Pres M M' b) ∧ M'.G = M.G ∧ OwnArr M' (.r 0) true 1 xs v' := by
  by_cases hx : xs = []
  · subst hx
    rcases hz rfl with rfl | ⟨a, cap, rfl⟩
    · refine (Try.clone_nil 0 0 M.w).mono ?_
      rintro e w' ⟨rfl, rfl⟩
      exact ⟨_, M, rfl, rfl, .refl M, wf, fun b q h => ⟨rfl, rfl, fun _ h => h⟩, rfl, .inl ⟨rfl, .inl rfl⟩⟩
    · refine (Try.clone_zero a cap M.w).mono ?_
      rintro e w' ⟨g, rfl, hb⟩
      obtain ⟨e, wf', p⟩ := below_evo0 wf hb
      exact ⟨_, _, rfl, rfl, e, wf', p, rfl, .inl ⟨rfl, .inr ⟨g, 0, rfl⟩⟩⟩
  · rcases hv with ⟨h0, _⟩ | ⟨b, o, cap, rfl, _, hE⟩
    · exact absurd h0 hx
    · obtain ⟨vs, hF, hA⟩ := hE.flat
      have hl := hF.length
      refine (Try.clone_bytes b o xs.length cap vs M.w (by omega) hF.one (by simp [lim] at hlim; omega) fun j u hj => ?_).mono ?_
      · have := hA.get hj
        exact this
      · rintro e w' ⟨v', rfl, hown, _, hb⟩
        obtain ⟨M', h1, h2, h3, h4, h5, h6⟩ := ownsRow_flat wf hown hx hF hb
        exact ⟨v', M', rfl, h1, h2, h3, h4, h5, h6⟩

theorem prim_args {M : Mem} {x : AV} {args : List Value} (hA : ArgsRep M [x] args) : ∃ v, args = [v] ∧ Has M (.r 0) x v := by
  obtain ⟨hl, hx⟩ := hA
  obtain ⟨_, v, hv, hh⟩ := hx 0 _ rfl
  exact ⟨v, args_one hl hv, hh⟩

theorem ok_clone : FnOk Try.prog (fun _ vs store => pClone1 vs store) 31 := by
  intro M vs args store r store' wf ho hA hS hr
  have go : ∀ {xs : List AV} {v : Value}, xs.length ≤ lim → args = [v] → SlC M 1 xs v → r = .sl (.own true) 1 xs → store' = store → (∃ fn, Try.prog.funcs[31]? = some fn ∧ fn.body.isNone = false ∧ (fn.name == "runtime.NumGoroutine") = false) ∧
      Calls Try.prog 31 args.toArray M.w fun e w' => ∃ v M', e = .returned v ∧ w' = M'.w ∧ Evo M M' ∧ M'.Wf ∧ ResRep M' r v ∧ StoreRep M' store' := by
    rintro xs v hlim rfl hv rfl rfl
    refine ⟨⟨_, Try.func31, rfl, by kernel_rfl⟩, (clone_ok wf hlim hv fun h => ?_).mono ?_⟩
    · rcases hv with ⟨_, h2⟩ | ⟨b, o, cap, h2, _⟩
      · exact .inl h2
      · subst h; exact .inr ⟨_, cap, h2⟩
    · rintro e w' ⟨v', M', rfl, h1, h2, h3, h4, h5, h6⟩
      exact ⟨v', M', rfl, h1.symm, h2, h3, h6, StoreRep.pres h2.grow (fun id b h => by rw [h5] at h; exact h) (fun b k h _ => h4 b k h) hS⟩
  simp only [pClone1] at hr
  split at hr
  · split at hr
    · rename_i hlim
      simp only [Option.some.injEq, Prod.mk.injEq] at hr
      obtain ⟨v, hv, hh⟩ := prim_args hA
      exact go hlim hv (rep_content hh) hr.1.symm hr.2.symm
    · simp at hr
  · split at hr
    · rename_i hlim
      simp only [Option.some.injEq, Prod.mk.injEq] at hr
      obtain ⟨v, hv, hh⟩ := prim_args hA
      exact go hlim hv (rep_content_full hh).1 hr.1.symm hr.2.symm
    · simp at hr
  · simp at hr
end Go.VS
