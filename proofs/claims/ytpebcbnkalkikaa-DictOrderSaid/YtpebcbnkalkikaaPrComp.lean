/- slices.Compact at strings keeps to what the interpreter says of it. -/
import Derived.Test.YtpebcbnkalkikaaPrOk
set_option linter.unusedVariables false
namespace Go.VS
open Go.Proofs Go.RowKit Go.Sort

theorem putRow_block {α : Type} [Inhabited α] (enc : α → Value) (w : World) (blk off : Nat) (d : Array α) {c : Array Value} {e : TypeId} {fr : Nat × Nat} (h : w.heap[blk]? = some (.cells c e fr)) :
    ∃ c', (putRow enc w blk off d).heap[blk]? = some (.cells c' e fr) ∧ c'.size = c.size := by
  obtain ⟨hlt, hk⟩ := Array.getElem?_eq_some_iff.1 h
  refine ⟨putCells enc off d c, ?_, ?_⟩
  · simp only [putRow, mapBlock]
    rw [Array.getElem?_modify]
    simp [h, onCells]
  · simp [putCells]

theorem putRow_other {α : Type} [Inhabited α] (enc : α → Value) (w : World) (blk off : Nat) (d : Array α) {b : Nat} (h : b ≠ blk) : (putRow enc w blk off d).heap[b]? = w.heap[b]? := by
  simp only [putRow, mapBlock]
  rw [Array.getElem?_modify]
  simp [Ne.symm h]

theorem ok_compact : FnOk Try.prog (fun _ vs store => pCompactS vs store) 12 := by
  intro M vs args store r store' wf ho hA hS hr
  simp only [pCompactS] at hr
  split at hr
  · rename_i xs
    split at hr
    · rename_i hstr
      split at hr
      · rename_i hlim
        simp only [Option.some.injEq, Prod.mk.injEq] at hr
        obtain ⟨rfl, rfl⟩ := hr
        refine ⟨⟨_, Try.func12, rfl, by kernel_rfl⟩, ?_⟩
        obtain ⟨v, rfl, hh⟩ := prim_args hA
        change OwnArr M (.r 0) true 1 xs v at hh
        rcases hh with ⟨rfl, hv⟩ | ⟨hne, b, o, cap, rfl, hown, hcap, hE, ⟨c, e, fr, hc, hsz, hfr⟩, hT, _⟩
        · have hc : ∀ a, Calls Try.prog 12 #[.slice a 0 0] M.w fun e w' => e = .returned (.slice a 0 0) ∧ w' = M.w := fun a => Any.slices_Compact_string_empty Try.laysCompact a 0 M.w
          have fin : ∀ a, (v = .slice a 0 0) → (a = none ∨ ∃ b o, a = some ⟨b, o, none⟩) → Calls Try.prog 12 [v].toArray M.w fun e w' => ∃ v M', e = .returned v ∧ w' = M'.w ∧ Evo M M' ∧ M'.Wf ∧ ResRep M' (.sl (.own true) 1 ((compS (([] : List AV).map strOf)).map .str)) v ∧ StoreRep M' store := by
            rintro a rfl ha
            refine (hc a).mono ?_
            rintro e w' ⟨rfl, rfl⟩
            refine ⟨_, M, rfl, rfl, .refl M, wf, ?_, hS⟩
            refine .inl ⟨rfl, ?_⟩
            rcases ha with rfl | ⟨b, o, rfl⟩
            · exact .inl rfl
            · exact .inr ⟨b, o, rfl⟩
          rcases hv with hv | ⟨b, o, hv⟩
          · exact fin none hv (.inl rfl)
          · exact fin _ hv (.inr ⟨b, o, rfl⟩)
        · have hl : xs.length = (xs.map strOf).length := by simp
          have hb : b < M.w.heap.size := wf.odom b _ hown
          have hH : Holds encStr M.w b o (xs.map strOf).toArray := by
            intro j hj
            have hj' : j < xs.length := by simpa using hj
            have h1 := els_strs hE hstr j hj'
            refine ⟨?_, ?_⟩
            · rw [h1]; simp [hj']
            · have := hfr (o + j) (by omega)
              simpa [World.frozen?, hc] using this
          have hcall := Any.slices_Compact_string Try.laysCompact b o cap (xs.map strOf) M.w hH (by simp [lim] at *; omega) (by simpa using hcap)
          rw [← hl] at hcall
          refine (hcall : Calls Try.prog 12 #[_] _ _).mono ?_
          rintro e' w' ⟨rfl, q, rfl⟩
          rw [compS_eq]
          have hle := compS_length_le (xs.map strOf)
          have hHa : Holds encStr (Sort.ahead M.w q) b o (xs.map strOf).toArray := holds_ahead encStr M.w q b o _ hH
          have hbl : (Sort.ahead M.w q).heap[b]? = some (.cells c e fr) := hc
          obtain ⟨c', hc', hsz'⟩ := putRow_block encStr (Sort.ahead M.w q) b o (compS (xs.map strOf) ++ List.replicate (xs.length - (compS (xs.map strOf)).length) []).toArray hbl
          have hcells : ∀ j x, (compS (xs.map strOf))[j]? = some x → cellAt (putRow encStr (Sort.ahead M.w q) b o (compS (xs.map strOf) ++ List.replicate (xs.length - (compS (xs.map strOf)).length) []).toArray) b (o + j) = some (encStr x) := by
            intro j x hj
            have hjl : j < (compS (xs.map strOf)).length := (List.getElem?_eq_some_iff.1 hj).1
            have hx : (compS (xs.map strOf))[j] = x := (List.getElem?_eq_some_iff.1 hj).2
            have := cell?_putRow encStr (Sort.ahead M.w q) b o _ (compS (xs.map strOf) ++ List.replicate (xs.length - (compS (xs.map strOf)).length) []).toArray hHa (by simp at hle ⊢; omega) j (by simp; omega)
            rw [cellAt, this]
            have hj2 : j < (compS (xs.map strOf) ++ List.replicate (xs.length - (compS (xs.map strOf)).length) ([] : List UInt8)).length := by simp; omega
            have e3 : (compS (xs.map strOf) ++ List.replicate (xs.length - (compS (xs.map strOf)).length) ([] : List UInt8)).toArray[j]! = x := by
              rw [getElem!_pos _ j (by simpa using hj2)]
              simp only [List.getElem_toArray]
              rw [List.getElem_append_left hjl, hx]
            rw [e3]
          generalize hW : putRow encStr (Sort.ahead M.w q) b o (compS (xs.map strOf) ++ List.replicate (xs.length - (compS (xs.map strOf)).length) []).toArray = w' at hc' hcells
          have hoth : ∀ k, k ≠ b → w'.heap[k]? = M.w.heap[k]? := fun k hk => by rw [← hW]; exact putRow_other encStr _ b o _ hk
          have hsize : w'.heap.size = M.w.heap.size := by rw [← hW]; simp [Sort.ahead]
          have hgrow : Grow M.S M.G M.w M.S M.G w' := ⟨fun _ _ h => h, fun _ _ h => h, fun k j hs => cellAt_of_heap (hoth k (fun e => hT rfl j (e ▸ hs))) j⟩
          have hpres : ∀ k q', M.own k = some q' → q' ≠ .r 0 → Pres M { M with w := w' } k := fun k q' hk hq => ⟨rfl, hoth k (fun e => by subst e; rw [hown] at hk; simp only [Option.some.injEq] at hk; exact hq hk.symm), fun _ h => h⟩
          refine ⟨_, { M with w := w' }, rfl, rfl, ⟨hgrow, by show _ ≤ w'.heap.size; omega, by rw [← hW]; rfl, by rw [← hW]; rfl, by rw [← hW]; rfl, fun k _ hk => hoth k (fun e => by subst e; rw [hown] at hk; simp at hk), fun k _ hk => hk, fun k j hs => .inl hs⟩, ⟨fun k j hs => ?_, fun k q' hk => by show k < w'.heap.size; rw [hsize]; exact wf.odom k q' hk, wf.gown⟩, ?_, ?_⟩
          · have hs : M.S k j := hs
            show (cellAt w' k j).isSome = true
            rw [hgrow.keep k j hs]; exact wf.sdom k j hs
          · refine .inr ⟨by simpa using compS_ne (by simpa using hne), b, o, cap, by simp, hown, by simp at hle ⊢; omega, strs_els fun j x hj => hcells j x hj, ⟨c', e, fr, hc', by rw [hsz']; exact hsz, by rw [hsz']; exact hfr⟩, fun _ => hT rfl, fun h => by simp at h⟩
          · exact StoreRep.pres hgrow (fun _ _ h => h) (fun k q' hk hq => hpres k q' hk (by rintro rfl; simp [Key.isG] at hq)) hS
      · simp at hr
    · simp at hr
  · simp at hr
end Go.VS
