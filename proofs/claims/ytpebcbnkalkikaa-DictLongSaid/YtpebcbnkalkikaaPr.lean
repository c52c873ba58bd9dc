/- slices.Values's closure over strings: what it gives. (Turned from the kit's walk of the same closure over ints.) -/
import Derived.RangeFuncBox
import Derived.RangeFuncLeaves
import Derived.RangeFuncGives
import Derived.Shelf.Abstract
import Derived.WalkKit
import Derived.OwnWalkIn
import Derived.TacticsInMore
import Derived.LoopNIn
import Derived.LoopIn
import Derived.Sort.OwnSorted
import Derived.Test.YtpebcbnkalkikaaProg
import Derived.Shelf.SlIter.Sorted
import Derived.Shelf.SortM.Plain
import Derived.Shelf.SortM.SortNone
import Derived.Shelf.Slices.CompactS
import Derived.Shelf.Lays2
import Derived.Shelf.RegionOpenPlain
import Derived.Deep.LoopGhost
import Derived.Lib.Walk
import Derived.Lib.SliceRun
import Derived.Test.YtpebcbnkalkikaaFc
import Derived.Test.YtpebcbnkalkikaaFe
import Derived.Test.YtpebcbnkalkikaaFb
namespace Go.Proofs
open Go.RowKit Go.Shelf Go.Sort

attribute [local go_sem] Oper.semAt_some

def Try.upto {α : Type} (f : Nat → α) (k : Nat) : List α := (List.range k).map f
theorem Try.upto_succ {α : Type} (f : Nat → α) (k : Nat) : Try.upto f (k + 1) = Try.upto f k ++ [f k] := by simp [Try.upto, List.range_succ]
theorem Try.upto_length {α : Type} (f : Nat → α) (k : Nat) : (Try.upto f k).length = k := by simp [Try.upto]
theorem Try.upto_all (zs : List (List UInt8)) : Try.upto (fun j => zs[j]?.getD []) zs.length = zs := by
  apply List.ext_getElem
  · simp [Try.upto]
  · intro i h1 h2
    simp [Try.upto, h2]

set_option maxRecDepth 100000 in
set_option maxHeartbeats 2000000 in
theorem Try.values1_in (F : Fence) (n : Nat) (h7 : F.fn 27) (hro : F.round = none) (hn : 1 ≤ n) (l Bs n₀ b off len cap : Nat) (zs : List (List UInt8)) (hreach : len * 16 ≤ 140737488351232) (hb : 0 < len → b < n₀) (J : List (List UInt8) → World → Prop)
    (hY : ∀ pre x W, J pre W → pre.length < len → YieldAt F (n - 1) Try.prog l #[encStr x] W fun e W' =>
      (e = .returned (.bool true) ∧ J (pre ++ [x]) W' ∧ Below n₀ W W'))
    (W : World) (hBs : W.cell? ⟨Bs, 0, none⟩ = some (.slice (some ⟨b, off, none⟩) len cap)) (hc : ∀ j, j < len → W.cell? ⟨b, off + j, none⟩ = some (encStr (zs[j]?.getD []))) (h0 : J [] W) :
    CallsIn F n Try.prog 27 #[.func (.yield l) #[] #[], .pointer (some ⟨Bs, 0, none⟩)] W fun e W' => (∃ v, e = .returned v) ∧
      J (Try.upto (fun j => zs[j]?.getD []) len) W' := by
  refine callsIn_of_wp Try.func27 rfl h7 ?_ hro
  simp only [Try.ntmps27, List.size_toArray, List.length_cons, List.length_nil, Nat.reduceAdd, Nat.reduceSub, Array.replicate_succ, Array.replicate_zero, List.push_toArray, List.append_toArray, List.nil_append, List.cons_append]
  gi_wp2
  gi_loopw [7] (fun i wr => ∃ k : Nat, k ≤ len ∧ i = .int .i64 k ∧ J (Try.upto (fun j => zs[j]?.getD []) k) wr ∧ Below n₀ W wr)
    (fun i _ => len - (intOf i).toNat)
  case atStart => exact ⟨0, Nat.zero_le _, rfl, h0, Below.refl _ _⟩
  case round =>
    obtain ⟨k, hk, rfl, hJs, hnx⟩ := hrel
    have hcx : k < len → wr.cell? ⟨b, off + k, none⟩ = some (encStr (zs[k]?.getD [])) := fun h => (hnx.cell (p := ⟨b, off + k, none⟩) (hb (by omega))).trans (hc k h)
    by_cases hlt : k < len
    · obtain ⟨fn, tmps, assign, body, hy, hR⟩ := hY _ (zs[k]?.getD []) wr hJs (by rw [Try.upto_length]; exact hlt)
      have hcx' := hcx hlt
      gi_wp2
      refine hR.mono ?_
      rintro e W3 ⟨rfl, hJ3, hk3⟩
      gi_wp2
      go_roundw
      case rel => exact ⟨k + 1, by omega, by simp, by rw [Try.upto_succ]; exact hJ3, hnx.trans hk3⟩
      case measure => simp [intOf]; omega
    · obtain rfl : k = len := by omega
      gi_wp2
      go_end0
      exact ⟨⟨_, rfl⟩, hJs⟩

set_option maxRecDepth 100000 in
set_option maxHeartbeats 1000000 in
/-- .. at the nil slice: no round. -/
theorem Try.values1_nil_in (F : Fence) (n : Nat) (h7 : F.fn 27) (hro : F.round = none) (l Bs : Nat) (J : List (List UInt8) → World → Prop) (W : World) (hBs : W.cell? ⟨Bs, 0, none⟩ = some (.slice none 0 0)) (h0 : J [] W) :
    CallsIn F n Try.prog 27 #[.func (.yield l) #[] #[], .pointer (some ⟨Bs, 0, none⟩)] W fun e W' => (∃ v, e = .returned v) ∧ J [] W' := by
  refine callsIn_of_wp Try.func27 rfl h7 ?_ hro
  simp only [Try.ntmps27, List.size_toArray, List.length_cons, List.length_nil, Nat.reduceAdd, Nat.reduceSub, Array.replicate_succ, Array.replicate_zero, List.push_toArray, List.append_toArray, List.nil_append, List.cons_append]
  gi_wp2
  gi_loopw [7] (fun i wr => i = .int .i64 0 ∧ J [] wr) (fun _ _ => 0)
  case atStart => exact ⟨rfl, h0⟩
  case round =>
    obtain ⟨rfl, hJs⟩ := hrel
    gi_wp2
    go_end0
    exact ⟨⟨_, rfl⟩, hJs⟩

end Go.Proofs
/- Three of the library's contracts laid at this program (written by the kit's tool lay-plain). -/
namespace Go.Proofs
open Go.Shelf
def Try.sortedA_ren : Go.Shelf.Ren := ⟨fun | 6 => 13 | 8 => 25 | 9 => 26 | 11 => 36 | 13 => 38 | 12 => 37 | 23 => 48 | 24 => 33 | 14 => 40 | 15 => 41 | 16 => 42 | 17 => 43 | 18 => 44 | 19 => 45 | 20 => 28 | 21 => 46 | 22 => 47 | 25 => 49 | 26 => 50 | 27 => 51 | 28 => 52 | 29 => 53 | 30 => 39 | 31 => 54 | n => n, fun | 26 => 9 | 28 => 43 | 24 => 22 | 0 => 0 | 3 => 3 | 37 => 60 | 48 => 79 | 50 => 30 | 4 => 4 | 40 => 73 | 39 => 72 | 45 => 45 | 5 => 5 | 9 => 9 | 51 => 80 | 55 => 84 | 57 => 86 | 58 => 87 | 33 => 48 | n => n, fun | n => n⟩
theorem Try.sortedA : Go.Proofs.SlLaysZ.n6 Try.prog Try.sortedA_ren := {
  mixed := by kernel_rfl
  f6 := ⟨Try.f13.name, by decide, Try.func13.trans (congrArg some (by kernel_rfl))⟩
  f8 := ⟨Try.f25.name, by decide, Try.func25.trans (congrArg some (by kernel_rfl))⟩
  f11 := ⟨Try.f36.name, by decide, Try.func36.trans (congrArg some (by kernel_rfl))⟩
  t0 := Try.underlying0
  a0 := Try.isAgg0
  z0 := Try.sizeOf0
  v0 := Try.zeroValue0
  t24 := Try.underlying22
  a24 := Try.isAgg22
  z24 := Try.sizeOf22
  v24 := Try.zeroValue22
  t26 := Try.underlying9
  a26 := Try.isAgg9
  z26 := Try.sizeOf9
  v26 := Try.zeroValue9
  t28 := Try.underlying43
  a28 := Try.isAgg43
  z28 := Try.sizeOf43
  v28 := Try.zeroValue43
  i26 := by kernel_rfl }
def Try.sortA_ren : Go.Shelf.Ren := ⟨fun | 6 => 26 | 8 => 38 | 9 => 37 | 19 => 48 | 20 => 33 | 21 => 40 | 22 => 41 | 23 => 42 | 24 => 43 | 25 => 44 | 26 => 45 | 27 => 28 | 28 => 46 | 29 => 47 | 36 => 49 | 31 => 50 | 32 => 51 | 37 => 52 | 38 => 53 | 39 => 39 | 41 => 54 | n => n, fun | 27 => 22 | 29 => 9 | 3 => 3 | 32 => 60 | 26 => 22 | 0 => 0 | 44 => 79 | 46 => 30 | 4 => 4 | 36 => 73 | 35 => 72 | 41 => 45 | 5 => 5 | 9 => 9 | 53 => 80 | 57 => 84 | 63 => 86 | 64 => 87 | n => n, fun | n => n⟩
theorem Try.sortA : Go.Proofs.SlLaysM.n6 Try.prog Try.sortA_ren := {
  mixed := by kernel_rfl
  f6 := ⟨Try.f26.name, by decide, Try.func26.trans (congrArg some (by kernel_rfl))⟩
  f8 := Try.func38.trans (congrArg some (by kernel_rfl))
  f9 := ⟨Try.f37.name, by decide, Try.func37.trans (congrArg some (by kernel_rfl))⟩
  f19 := Try.func48.trans (congrArg some (by kernel_rfl))
  f20 := Try.func33.trans (congrArg some (by kernel_rfl))
  f21 := ⟨Try.f40.name, by decide, Try.func40.trans (congrArg some (by kernel_rfl))⟩
  f22 := ⟨Try.f41.name, by decide, Try.func41.trans (congrArg some (by kernel_rfl))⟩
  f23 := ⟨Try.f42.name, by decide, Try.func42.trans (congrArg some (by kernel_rfl))⟩
  f24 := ⟨Try.f43.name, by decide, Try.func43.trans (congrArg some (by kernel_rfl))⟩
  f25 := ⟨Try.f44.name, by decide, Try.func44.trans (congrArg some (by kernel_rfl))⟩
  f26 := ⟨Try.f45.name, by decide, Try.func45.trans (congrArg some (by kernel_rfl))⟩
  f27 := ⟨Try.f28.name, by decide, Try.func28.trans (congrArg some (by kernel_rfl))⟩
  f28 := ⟨Try.f46.name, by decide, Try.func46.trans (congrArg some (by kernel_rfl))⟩
  f29 := ⟨Try.f47.name, by decide, Try.func47.trans (congrArg some (by kernel_rfl))⟩
  f31 := Try.func50.trans (congrArg some (by kernel_rfl))
  f32 := Try.func51.trans (congrArg some (by kernel_rfl))
  f36 := ⟨Try.f49.name, by decide, Try.func49.trans (congrArg some (by kernel_rfl))⟩
  f37 := ⟨Try.f52.name, by decide, Try.func52.trans (congrArg some (by kernel_rfl))⟩
  f38 := ⟨Try.f53.name, by decide, Try.func53.trans (congrArg some (by kernel_rfl))⟩
  f39 := ⟨Try.f39.name, by decide, Try.func39.trans (congrArg some (by kernel_rfl))⟩
  f41 := ⟨Try.f54.name, by decide, Try.func54.trans (congrArg some (by kernel_rfl))⟩
  t0 := Try.underlying0
  a0 := Try.isAgg0
  z0 := Try.sizeOf0
  v0 := Try.zeroValue0
  t3 := Try.underlying3
  a3 := Try.isAgg3
  z3 := Try.sizeOf3
  v3 := Try.zeroValue3
  t4 := Try.underlying4
  a4 := Try.isAgg4
  z4 := Try.sizeOf4
  v4 := Try.zeroValue4
  t5 := Try.underlying5
  a5 := Try.isAgg5
  z5 := Try.sizeOf5
  v5 := Try.zeroValue5
  t9 := Try.underlying9
  a9 := Try.isAgg9
  z9 := Try.sizeOf9
  v9 := Try.zeroValue9
  t26 := Try.underlying22
  a26 := Try.isAgg22
  z26 := Try.sizeOf22
  v26 := Try.zeroValue22
  t27 := Try.underlying22
  a27 := Try.isAgg22
  z27 := Try.sizeOf22
  v27 := Try.zeroValue22
  t29 := Try.underlying9
  a29 := Try.isAgg9
  z29 := Try.sizeOf9
  v29 := Try.zeroValue9
  t32 := Try.underlying60
  a32 := Try.isAgg60
  z32 := Try.sizeOf60
  v32 := Try.zeroValue60
  t35 := Try.underlying72
  a35 := Try.isAgg72
  z35 := Try.sizeOf72
  v35 := Try.zeroValue72
  t36 := Try.underlying73
  a36 := Try.isAgg73
  z36 := Try.sizeOf73
  v36 := Try.zeroValue73
  t41 := Try.underlying45
  a41 := Try.isAgg45
  z41 := Try.sizeOf45
  v41 := Try.zeroValue45
  t44 := Try.underlying79
  a44 := Try.isAgg79
  z44 := Try.sizeOf79
  v44 := Try.zeroValue79
  t46 := Try.underlying30
  a46 := Try.isAgg30
  z46 := Try.sizeOf30
  v46 := Try.zeroValue30
  t53 := Try.underlying80
  a53 := Try.isAgg80
  z53 := Try.sizeOf80
  v53 := Try.zeroValue80
  t57 := Try.underlying84
  a57 := Try.isAgg84
  z57 := Try.sizeOf84
  v57 := Try.zeroValue84
  t63 := Try.underlying86
  a63 := Try.isAgg86
  z63 := Try.sizeOf86
  v63 := Try.zeroValue86
  t64 := Try.underlying87
  a64 := Try.isAgg87
  z64 := Try.sizeOf87
  v64 := Try.zeroValue87 }
def Try.laysCompact_ren : Go.Shelf.Ren := ⟨fun | 194 => 12 | n => n, fun | 31 => 22 | 9 => 9 | 3 => 3 | 4 => 4 | 0 => 0 | n => n, fun | n => n⟩
theorem Try.laysCompact : Go.Proofs.Lays.n194 Try.prog Try.laysCompact_ren := {
  mixed := by kernel_rfl
  f194 := Try.func12.trans (congrArg some (by kernel_rfl))
  t0 := Try.underlying0
  a0 := Try.isAgg0
  z0 := Try.sizeOf0
  v0 := Try.zeroValue0
  t3 := Try.underlying3
  a3 := Try.isAgg3
  z3 := Try.sizeOf3
  v3 := Try.zeroValue3
  t4 := Try.underlying4
  a4 := Try.isAgg4
  z4 := Try.sizeOf4
  v4 := Try.zeroValue4
  t9 := Try.underlying9
  a9 := Try.isAgg9
  z9 := Try.sizeOf9
  v9 := Try.zeroValue9
  t31 := Try.underlying22
  a31 := Try.isAgg22
  z31 := Try.sizeOf22
  v31 := Try.zeroValue22 }
end Go.Proofs
/- slices.Sorted over an iterator that reads what lay before the call. (The three proofs are the kit's worked ones for iterators that ask no such thing, turned to 'GivesB'.) -/
namespace Go.Proofs
open Go.RowKit Go.Maps Go.Sort Go.Shelf
variable {P : Program} {ρ : Ren}

/-- What an iterator gives to rounds that keep what lay before the call. -/
def GivesB {α : Type} (F : Fence) (n : Nat) (P : Program) (g : Nat) (lb : Array Value) (enc : α → Value) (S : List α → Prop) (N : Nat) (w : World) : Prop :=
  ∀ (l : Nat) (J : List α → World → Prop) (W : World), Below w.heap.size w W → (∀ s W', J s W' → Below w.heap.size w W') → AbidesFrom W.heap.size J →
    (∀ pre x W1, J pre W1 → pre.length < N → YieldAt F (n - 1) P l #[enc x] W1 fun e W' => e = .returned (.bool true) ∧ J (pre ++ [x]) W' ∧ KeepsWalks W1 W') →
    J [] W →
    CallsIn F n P g (#[.func (.yield l) #[] #[]] ++ lb) W fun e W' => (∃ v, e = .returned v) ∧ ∃ xs, S xs ∧ J xs W'

theorem GivesB.bounded {α : Type} {F : Fence} {n : Nat} {P : Program} {g : Nat} {lb : Array Value} {enc : α → Value} {S : List α → Prop} {N : Nat} {w : World}
    (h : GivesB F n P g lb enc S N w) : GivesB F n P g lb enc (fun xs => S xs ∧ xs.length ≤ N) N w := fun l J W hW hB hJ hY h0 => by
  refine (h l (fun xs W' => J xs W' ∧ xs.length ≤ N) W hW (fun s W' hs => hB s W' hs.1) (fun s A B row hs hg hr => ⟨hJ s A B row hs.1 hg hr, hs.2⟩)
    (fun pre x W1 hj hl => (hY pre x W1 hj.1 hl).mono (fun e w' hr => ⟨hr.1, ⟨hr.2.1, by simp; omega⟩, hr.2.2⟩)) ⟨h0, Nat.zero_le _⟩).mono ?_
  rintro e W' ⟨hv, xs, hS, hJ', hlen⟩
  exact ⟨hv, xs, ⟨hS, hlen⟩, hJ'⟩

set_option maxRecDepth 100000 in
set_option maxHeartbeats 2000000 in
theorem VsZ.appendSeq_in (L : SlLaysZ.n11 P ρ) (F : Fence) (n : Nat) (h11 : F.fn (ρ.f 11)) (hro : F.round = none) (hn : 2 ≤ n) (g : Nat) (lb : Array Value) (hFg : F.fn g) (eg : ∀ args w, (callFunc g args).run P w = .ok (.enter g args) w)
    (S : List (List UInt8) → Prop) (N : Nat) (hN : N ≤ maxLen) (hNb : N * 16 ≤ 140737488355328) (w : World) (hseq : GivesB F (n - 1) P g lb encStr S N w) :
    CallsIn F n P (ρ.f 11) #[.slice none 0 0, .func (.func g) #[] lb] w fun e w' => ∃ (v : Value) (ss : List (List UInt8)), e = .returned v ∧ S ss ∧ w'.ownsRow w.heap.size (ρ.t 26) 1 v ss.length (ss.map encStr) ∧ (v = .slice none 0 0 ↔ ss = []) ∧ Below w.heap.size w w' := by
  have h1 : 1 ≤ n := by omega
  have mixed := L.mixed; have t0 := L.t0; have a0 := L.a0; have z0 := L.z0; have v0 := L.v0; have t24 := L.t24; have a24 := L.a24; have z24 := L.z24; have v24 := L.v24; have t26 := L.t26; have a26 := L.a26; have z26 := L.z26; have v26 := L.v26; have t28 := L.t28; have a28 := L.a28; have z28 := L.z28; have v28 := L.v28
  have hne : ρ.t 24 ≠ ρ.t 26 := fun e => by have h := L.t24; rw [e, L.t26] at h; cases h
  have u0 := run_underlying L.t0; have u24 := run_underlying L.t24; have u26 := run_underlying L.t26; have u28 := run_underlying L.t28
  obtain ⟨_, _, FG⟩ := L.f11
  refine callsIn_of_wp_marks FG rfl h11 ?_ hro
  simp only [SlBodyZ.n11_ntmps ρ, List.size_toArray, List.length_cons, List.length_nil, Nat.reduceAdd, Nat.reduceSub, Array.replicate_succ, Array.replicate_zero, List.push_toArray, List.append_toArray, List.nil_append, List.cons_append]
  gi_wp2
  refine wpIn_rangeFunc ?_
  intro fn hfn
  rw [hro]
  obtain ⟨W0, hW0⟩ : ∃ W0, w.alloc (.cells #[.slice none 0 0] (ρ.t 24)) = W0 := ⟨_, rfl⟩
  have hs0 : W0.heap.size = w.heap.size + 1 := by rw [← hW0]; simp
  have hv0 : W0.heap[w.heap.size]? = some (.cells #[.slice none 0 0] (ρ.t 24) (0, 0)) := by rw [← hW0]; exact World.alloc_heap_new w _
  have hb0 : Below w.heap.size w W0 := by rw [← hW0]; exact (Below.refl _ w).alloc (Nat.le_refl _) _
  rw [hW0]
  obtain ⟨W1, hW1⟩ : ∃ W1, (W0.alloc (.deferred (some []))).alloc (.loop (AnyZ.apRec ρ fn (.func (.func g) #[] lb) w.heap.size W0.heap.size .ready none)) = W1 := ⟨_, rfl⟩
  have hold : ∀ k, k < W0.heap.size → W1.heap[k]? = W0.heap[k]? := fun k hk => by
    rw [← hW1]; exact (Below.heap_alloc _ _ k (by simp; omega)).trans (Below.heap_alloc _ _ k hk)
  have hb1 : Below w.heap.size w W1 := by rw [← hW1]; exact (hb0.alloc hb0.size _).alloc (by have := hb0.size; simp; omega) _
  have hs1 : W1.heap.size = W0.heap.size + 2 := by rw [← hW1]; simp
  have hM : AnyZ.ApAt ρ w fn (.func (.func g) #[] lb) w.heap.size (W0.heap.size + 1) W0.heap.size [] W1 :=
    ⟨⟨_, (hold w.heap.size (by omega)).trans hv0, ⟨rfl, .inl ⟨rfl, rfl⟩⟩, by simp⟩,
     by rw [← hW1]; have := World.alloc_heap_new (W0.alloc (.deferred (some []))) (.loop (AnyZ.apRec ρ fn (.func (.func g) #[] lb) w.heap.size W0.heap.size .ready none)); rwa [World.size_alloc] at this,
     by rw [← hW1]; exact (Below.heap_alloc _ _ _ (by simp)).trans (World.alloc_heap_new W0 _), hb1⟩
  refine ⟨W0.heap.size + 1, [{ target := .collected W0.heap.size, args := #[] }], W1, { target := .fn (.func g) lb, args := #[.func (.yield (W0.heap.size + 1)) #[] #[]] }, W1, g,
    #[.func (.yield (W0.heap.size + 1)) #[] #[]] ++ lb, W1, ?_, ?_, ?_, ?_, fun _ => h1, ?_⟩
  · rw [← hW1]; exact run_enterLoop_outer _ _ _ _ _
  · simp [resolve, go_sem]
  · intro f' hf'; simp [Target.leads] at hf'; subst hf'; exact hFg
  · simp [invoke, go_sem, eg]
  · refine (hseq (W0.heap.size + 1) (AnyZ.ApAt ρ w fn (.func (.func g) #[] lb) w.heap.size (W0.heap.size + 1) W0.heap.size) W1 hb1 (fun s W' h => h.below) (AnyZ.ap_abides ρ _ _ _ _ _ _ _ hb1.size)
      (fun pre x W hJ hl => AnyZ.apYield { L with } F (n - 1 - 1) w fn hfn _ w.heap.size (W0.heap.size + 1) W0.heap.size (by omega) (by omega) (by omega) (Nat.le_refl _) (by omega) N hN hNb pre x W hJ hl) hM).mono ?_
    rintro e W2 ⟨⟨v0, rfl⟩, ss, hS, h2⟩
    obtain ⟨v, hv, hrow, hnil⟩ := h2.box
    have hend := run_endLoop (P := P) h2.L (by simp [AnyZ.apRec])
    obtain ⟨W3, hW3⟩ : ∃ W3, W2.putObj (W0.heap.size + 1) (.loop { AnyZ.apRec ρ fn (.func (.func g) #[] lb) w.heap.size W0.heap.size .ready none with state := .exhausted }) = W3 := ⟨_, rfl⟩
    rw [hW3] at hend
    have hg3 : W2.grownBy W3 (some (W0.heap.size + 1)) := by rw [← hW3]; exact grownBy_putObj_a _ _ _
    have hv3 : W3.heap[w.heap.size]? = some (.cells #[v] (ρ.t 24) (0, 0)) := by rw [← hW3]; exact (World.putObj_heap_other (by omega)).trans hv
    have hK3 : W3.heap[W0.heap.size]? = some (.deferred (some [])) := by rw [← hW3]; exact (World.putObj_heap_other (by omega)).trans h2.K
    have hrow3 := hrow.kept hg3 (ownsRow_ne_a hrow h2.L (fun cur e => by first | cases e | exact hne (Obj.cells.inj e).2.1))
    have hb3 : Below w.heap.size w W3 := h2.below.grown hg3 h2.below.size (fun k e => by cases e; omega)
    obtain ⟨hc3, hf3⟩ := cell_of_box_a hv3
    clear hW3
    refine ⟨none, W3, hend, ?_⟩
    gi_wp2
    rw [← hs0]
    refine ⟨by simp, .inl ⟨_, _, rfl, run_takeDeferred hK3, ?_⟩⟩
    exact ⟨_, results_tmp rfl _ _ _, v, ss, rfl, hS, hrow3.kept (grownBy_putObj_a _ _ _) (ownsRow_ne_a hrow3 hK3 (fun cur e => by first | cases e | exact hne (Obj.cells.inj e).2.1)), hnil, hb3.grown (grownBy_putObj_a _ _ _) hb3.size (fun k e => by cases e; omega)⟩


set_option maxRecDepth 100000 in
set_option maxHeartbeats 2000000 in
theorem VsZ.collect_in (L : SlLaysZ.n8 P ρ) (F : Fence) (n : Nat) (h8 : F.fn (ρ.f 8)) (h11 : F.fn (ρ.f 11)) (hro : F.round = none) (hn : 3 ≤ n) (g : Nat) (lb : Array Value) (hFg : F.fn g) (eg : ∀ args w, (callFunc g args).run P w = .ok (.enter g args) w)
    (S : List (List UInt8) → Prop) (N : Nat) (hN : N ≤ maxLen) (hNb : N * 16 ≤ 140737488355328) (w : World) (hseq : GivesB F (n - 1 - 1) P g lb encStr S N w) :
    CallsIn F n P (ρ.f 8) #[.func (.func g) #[] lb] w fun e w' => ∃ (v : Value) (ss : List (List UInt8)), e = .returned v ∧ S ss ∧ w'.ownsRow w.heap.size (ρ.t 26) 1 v ss.length (ss.map encStr) ∧ (v = .slice none 0 0 ↔ ss = []) ∧ Below w.heap.size w w' := by
  have h1 : 1 ≤ n := by omega
  have e11 : ∀ args w, (callFunc (ρ.f 11) args).run P w = .ok (.enter (ρ.f 11) args) w := L.f11.enters rfl
  have mixed := L.mixed; have t0 := L.t0; have a0 := L.a0; have z0 := L.z0; have v0 := L.v0; have t24 := L.t24; have a24 := L.a24; have z24 := L.z24; have v24 := L.v24; have t26 := L.t26; have a26 := L.a26; have z26 := L.z26; have v26 := L.v26; have t28 := L.t28; have a28 := L.a28; have z28 := L.z28; have v28 := L.v28
  have u0 := run_underlying L.t0; have u24 := run_underlying L.t24; have u26 := run_underlying L.t26; have u28 := run_underlying L.t28
  obtain ⟨_, _, FG⟩ := L.f8
  refine callsIn_of_wp FG rfl h8 ?_ hro
  simp only [SlBodyZ.n8_ntmps ρ, List.size_toArray, List.length_cons, List.length_nil, Nat.reduceAdd, Nat.reduceSub, Array.replicate_succ, Array.replicate_zero, List.push_toArray, List.append_toArray, List.nil_append, List.cons_append]
  gi_wp2_with (gi_at_fn (ρ.f 11); refine (VsZ.appendSeq_in { L with } F (n - 1) h11 hro (by omega) g lb hFg eg S N hN hNb _ hseq).mono ?_; rintro e w' ⟨v, ss, rfl, hS, hrow, hnil, hb⟩)
  go_ret
  exact ⟨v, ss, rfl, hS, hrow, hnil, hb⟩


set_option maxRecDepth 100000 in
set_option maxHeartbeats 2000000 in
theorem VsZ.sorted_in (L : SlLaysZ.n6 P ρ) (F : Fence) (n : Nat) (h6 : F.fn (ρ.f 6)) (h8 : F.fn (ρ.f 8)) (h9 : F.fn (ρ.f 9)) (h11 : F.fn (ρ.f 11)) (hro : F.round = none) (hn : 4 ≤ n) (hsort : AnyZ.SortsIn P ρ F (n - 1)) (e9 : ∀ args w, (callFunc (ρ.f 9) args).run P w = .ok (.enter (ρ.f 9) args) w) (g : Nat) (lb : Array Value) (hFg : F.fn g) (eg : ∀ args w, (callFunc g args).run P w = .ok (.enter g args) w)
    (S : List (List UInt8) → Prop) (N : Nat) (hN : N ≤ maxLen) (hNb : N * 16 ≤ 140737488355328) (w : World) (hseq : GivesB F (n - 1 - 1 - 1) P g lb encStr S N w) :
    CallsIn F n P (ρ.f 6) #[.func (.func g) #[] lb] w fun e w' => ∃ (v : Value) (ss : List (List UInt8)), e = .returned v ∧ S ss ∧
      w'.ownsRow w.heap.size (ρ.t 26) 1 v ss.length ((ss.mergeSort (fun x y => decide (x ≤ y))).map encStr) ∧ (v = .slice none 0 0 ↔ ss = []) ∧ Below w.heap.size w w' := by
  have h1 : 1 ≤ n := by omega
  have e8 : ∀ args w, (callFunc (ρ.f 8) args).run P w = .ok (.enter (ρ.f 8) args) w := L.f8.enters rfl
  have mixed := L.mixed; have t0 := L.t0; have a0 := L.a0; have z0 := L.z0; have v0 := L.v0; have t24 := L.t24; have a24 := L.a24; have z24 := L.z24; have v24 := L.v24; have t26 := L.t26; have a26 := L.a26; have z26 := L.z26; have v26 := L.v26; have t28 := L.t28; have a28 := L.a28; have z28 := L.z28; have v28 := L.v28
  have u0 := run_underlying L.t0; have u24 := run_underlying L.t24; have u26 := run_underlying L.t26; have u28 := run_underlying L.t28
  obtain ⟨_, _, FG⟩ := L.f6
  refine callsIn_of_wp FG rfl h6 ?_ hro
  simp only [SlBodyZ.n6_ntmps ρ, List.size_toArray, List.length_cons, List.length_nil, Nat.reduceAdd, Nat.reduceSub, Array.replicate_succ, Array.replicate_zero, List.push_toArray, List.append_toArray, List.nil_append, List.cons_append]
  gi_wp2_with (gi_at_fn (ρ.f 8); refine (VsZ.collect_in { L with } F (n - 1) h8 h11 hro (by omega) g lb hFg eg _ N hN hNb _ (GivesB.bounded hseq)).mono ?_; rintro e W ⟨v, ss, rfl, ⟨hS, hlen⟩, hrow, hnil, hb⟩)
  rcases hrow.2 with ⟨rfl, hz⟩ | ⟨gb, cap, cur, rfl, hbase, hgb, r1, r2, r3, r4⟩
  · -- nothing came: the nil slice is sorted and handed back
    have hss : ss = [] := List.eq_nil_of_length_eq_zero hz
    subst hss
    gi_wp2_with (gi_at_fn (ρ.f 9); refine (hsort.2 none 0 W).mono ?_; rintro e w' ⟨rfl, rfl⟩)
    go_ret
    exact ⟨.slice none 0 0, [], rfl, hS, by simpa using hrow, by simp, hb⟩
  · have hH : Holds encStr W gb 0 ss.toArray := holds_of_block hgb (by simpa using r4)
    have hgl : gb < W.heap.size := (Array.getElem?_eq_some_iff.1 hgb).1
    have hsz : ss.length < 4611686018427387904 := by omega
    have cS := hsort.1 gb 0 cap ss W hH hgl hsz
    gi_wp2_with (gi_at_fn (ρ.f 9); refine cS.mono ?_; rintro e w' ⟨rfl, nn, os, rfl⟩)
    go_ret
    exact ⟨_, ss, rfl, hS, ownsRow_sorted (by simp) hbase hgb r1 r2 r3, hnil, hb.grown (grownBy_sorted _) hb.size (fun j hj => by cases hj; exact hbase)⟩



theorem Try.sortsA (m : Nat) : AnyZ.SortsIn Try.prog Try.sortedA_ren Fence.wide m :=
  ⟨fun blk off cap ss W hH hblk hsz => callsIn_wide.2 (AnyM.slices_Sort_string Try.sortA blk off cap ss W hH hblk hsz),
   fun p cap W => callsIn_wide.2 (AnyM.slices_Sort_string_none Try.sortA p cap W)⟩

end Go.Proofs
/- slices.Clone at bytes (turned from the kit's proofs at ints). -/
namespace Go.Proofs
open Go.Shelf Go.RowKit Go.Lib

theorem Try.i5 : (Try.prog.info? 5).map (fun i => (i.zero, i.size, i.bytes)) = some (some (Value.int IntKind.u8 0), 1, 1) := by kernel_rfl

set_option maxHeartbeats 2000000 in
set_option maxRecDepth 100000 in
theorem Try.clone_bytes (b off n c : Nat) (cs : List Value) (w : World) (hn : cs.length = n) (hone : ∀ v ∈ cs, v.oneCell' = true) (hbig : n ≤ 70368744177664) (hc : ∀ j v, cs[j]? = some v → w.cell? ⟨b, off + j, none⟩ = some v) :
    Calls Try.prog 31 #[.slice (some ⟨b, off, none⟩) n c] w fun e w' => ∃ v', e = .returned v' ∧ w'.ownsRow w.heap.size 5 1 v' n cs ∧ v' ≠ .slice none 0 0 ∧ Below w.heap.size w w' := by
  obtain ⟨i0, hi, hz0, hz1, hz2⟩ := info_parts Try.i5
  have q22 : ∀ (w : World) (a : Option Addr) (n c n' c' : Nat), (binOp .eql 32 (.slice a n c) (.slice none n' c')).run Try.prog w = .ok (.bool a.isNone) w := fun w a n c n' c' => Lib.run_eql_slice_nil w _ _ a n c n' c' Try.underlying32
  have A : Aside (∀ j v, cs[j]? = some v → w.cell? ⟨b, off + j, none⟩ = some v) := hc
  have A2 : Aside (∀ v ∈ cs, v.oneCell' = true) := hone
  clear hc hone
  go_enter Try.func31, Try.ntmps31
  go_wp2_with (at_builtin; refine wpList_append_own _ rfl _ _ 32 rfl w.heap.size 5 i0 (.int .u8 0) 1 1 Try.underlying32 hi hz0 hz1 hz2 rfl (by decide) _ _ _ rfl (World.ownsRow_made w #[] 0 (Nat.le_refl _) (Nat.zero_le _) rfl) ⟨b, off, none⟩ n c cs rfl ?qc1 ?qc2 ?qc3 ?qc4 ?qc5 ?qc6 ?_)
  case qc1 => simp; omega
  case qc2 =>
    intro j u hj
    rw [Addr.add_lit]
    refine Lib.cell?_alloc_some _ ?_
    exact A.out j u hj
  case qc3 => exact A2.out
  case qc4 => unfold maxLen; omega
  case qc5 => omega
  case qc6 => simp
  intro v' w1 hown hgrow hnil
  go_wp2
  go_ret
  refine ⟨v', rfl, by simpa using hown, ?_, ?_⟩
  · exact hnil
  · exact ((Below.refl _ w).alloc (Nat.le_refl _) _).grown hgrow (by simp) (by intro k hk; simp [Value.ownBlock] at hk; omega)

set_option maxHeartbeats 1000000 in
theorem Try.clone_nil (n c : Nat) (w : World) :
    Calls Try.prog 31 #[.slice none n c] w fun e w' => e = .returned (.slice none 0 0) ∧ w' = w := by
  have q22 : ∀ (w : World) (a : Option Addr) (n c n' c' : Nat), (binOp .eql 32 (.slice a n c) (.slice none n' c')).run Try.prog w = .ok (.bool a.isNone) w := fun w a n c n' c' => Lib.run_eql_slice_nil w _ _ a n c n' c' Try.underlying32
  go_enter Try.func31, Try.ntmps31
  go_wp2
  go_ret
  exact ⟨rfl, rfl⟩

set_option maxHeartbeats 2000000 in
set_option maxRecDepth 100000 in
theorem Try.clone_zero (a : Addr) (c : Nat) (w : World) :
    Calls Try.prog 31 #[.slice (some a) 0 c] w fun e w' => ∃ g, e = .returned (.slice (some ⟨g, 0, none⟩) 0 0) ∧ Below w.heap.size w w' := by
  obtain ⟨i0, hi, hz0, hz1, hz2⟩ := info_parts Try.i5
  have q22 : ∀ (w : World) (a : Option Addr) (n c n' c' : Nat), (binOp .eql 32 (.slice a n c) (.slice none n' c')).run Try.prog w = .ok (.bool a.isNone) w := fun w a n c n' c' => Lib.run_eql_slice_nil w _ _ a n c n' c' Try.underlying32
  have qap : ∀ (w : World) (A : Addr), (Builtin.append_ #[32, 32] 32 #[.slice (some A) 0 0, .slice (some a) 0 c]).run Try.prog w = .ok (.slice (some A) 0 0) w := fun w A => by
    simp [Builtin.append_, run_underlying Try.underlying32, sizeOf, typeInfo, hi, storeCells, Builtin.firstCells, Builtin.lenOf, go_sem]
  go_enter Try.func31, Try.ntmps31
  go_wp2
  go_ret
  exact ⟨_, rfl, (Below.refl _ w).alloc (Nat.le_refl _) _⟩
end Go.Proofs
/- The library's functions keep to what the interpreter says of them: slices.Sorted over slices.Values. -/
set_option linter.unusedVariables false
namespace Go.VS
open Go.Proofs Go.RowKit Go.Sort

/-- A world that has grown, a block of it owned. -/
theorem below_evo {M : Mem} (wf : M.Wf) {w' : World} (hb : Below M.w.heap.size M.w w') {g : Nat} (hg : M.w.heap.size ≤ g) (hl : g < w'.heap.size) (k : Key) :
    Evo M (M.alloc w' g k) ∧ ((∀ id, k ≠ .gb id ∧ k ≠ .mp id) → (M.alloc w' g k).Wf) ∧ ∀ b q, M.own b = some q → Pres M (M.alloc w' g k) b := by
  have hcell : ∀ b j, M.S b j → cellAt w' b j = cellAt M.w b j := fun b j hs => cellAt_of_heap (hb.block b (wf.slt hs)) j
  have hne : ∀ b, b < M.w.heap.size → b ≠ g := fun b h => by omega
  refine ⟨⟨⟨fun _ _ h => h, fun _ _ h => h, hcell⟩, hb.size, hb.os, hb.tape, hb.output, fun b h _ => hb.block b h, fun b h ho => ?_, fun b j h => .inl h⟩, fun _ => ⟨fun b j hs => ?_, fun b q hq => ?_, fun id b hG => ?_⟩, fun b q hq => ⟨?_, hb.block b (wf.odom b q hq), fun _ h => h⟩⟩
  · simp only [Mem.alloc, if_neg (hne b h), ho]
  · show (cellAt w' b j).isSome = true
    rw [hcell b j hs]; exact wf.sdom b j hs
  · simp only [Mem.alloc] at hq
    split at hq
    · rename_i e; subst e; exact hl
    · exact Nat.lt_of_lt_of_le (wf.odom b q hq) hb.size
  · have hlt : b < M.w.heap.size := by
      rcases wf.gown id b hG with e | e <;> exact wf.odom b _ e
    simp only [Mem.alloc, if_neg (hne b hlt)]
    exact wf.gown id b hG
  · simp only [Mem.alloc, if_neg (hne b (wf.odom b q hq))]

theorem below_evo0 {M : Mem} (wf : M.Wf) {w' : World} (hb : Below M.w.heap.size M.w w') : Evo M { M with w := w' } ∧ ({ M with w := w' } : Mem).Wf ∧ ∀ b q, M.own b = some q → Pres M { M with w := w' } b := by
  have hcell : ∀ b j, M.S b j → cellAt w' b j = cellAt M.w b j := fun b j hs => cellAt_of_heap (hb.block b (wf.slt hs)) j
  refine ⟨⟨⟨fun _ _ h => h, fun _ _ h => h, hcell⟩, hb.size, hb.os, hb.tape, hb.output, fun b h _ => hb.block b h, fun b h ho => ho, fun b j h => .inl h⟩, ⟨fun b j hs => ?_, fun b q hq => Nat.lt_of_lt_of_le (wf.odom b q hq) hb.size, fun id b hG => wf.gown id b hG⟩, fun b q hq => ⟨rfl, hb.block b (wf.odom b q hq), fun _ h => h⟩⟩
  show (cellAt w' b j).isSome = true
  rw [hcell b j hs]; exact wf.sdom b j hs

theorem els_strs {S : Cells} {G : Lay} {w : World} {b o : Nat} {xs : List AV} (h : Els S G w b 1 o xs) (hs : isStrs xs = true) : ∀ j, j < xs.length → w.cell? ⟨b, o + j, none⟩ = some (encStr ((xs.map strOf)[j]?.getD [])) := by
  intro j hj
  have hx : xs[j]? = some (.str ((xs.map strOf)[j]?.getD [])) := by
    have e := isStrs_iff hs
    have hj' : j < (xs.map strOf).length := by simpa using hj
    conv => lhs; rw [e]
    simp [hj]
  obtain ⟨vs, h1, h2, h3⟩ := h.get hx
  simp only [Rep] at h3
  subst h3
  have := h2.1
  simpa [cellAt, encStr] using this

theorem strs_els {S : Cells} {G : Lay} {w : World} {b : Nat} : ∀ {l : List (List UInt8)} {o : Nat}, (∀ j x, l[j]? = some x → cellAt w b (o + j) = some (encStr x)) → Els S G w b 1 o (l.map .str)
  | [], _, _ => by simp [Els]
  | x :: l, o, h => by
    refine ⟨⟨[encStr x], rfl, ⟨by simpa using h 0 x rfl, trivial⟩, by simp [Rep, encStr]⟩, strs_els fun j y hj => ?_⟩
    have := h (j + 1) y (by simpa using hj)
    rwa [show o + (j + 1) = o + 1 + j by omega] at this

/-- A new row of strings is owned. -/
theorem ownsRow_arr {M : Mem} {w' : World} {t : TypeId} {v : Value} {l : List (List UInt8)} (wf : M.Wf) (h : w'.ownsRow M.w.heap.size t 1 v l.length (l.map encStr)) (hnil : v = .slice none 0 0 ↔ l = []) (hb : Below M.w.heap.size M.w w') :
    ∃ M', M'.w = w' ∧ Evo M M' ∧ M'.Wf ∧ (∀ b q, M.own b = some q → Pres M M' b) ∧ M'.G = M.G ∧ OwnArr M' (.r 0) true 1 (l.map .str) v := by
  rcases h.2 with ⟨hv, hn⟩ | ⟨g, cap, cur, hv, hg, hc, h1, h2, h3, h4⟩
  · have hl : l = [] := List.eq_nil_of_length_eq_zero hn
    subst hl
    obtain ⟨e, wf', p⟩ := below_evo0 wf hb
    exact ⟨_, rfl, e, wf', p, rfl, .inl ⟨rfl, .inl hv⟩⟩
  · have hne : l ≠ [] := by
      intro e
      rw [hnil.2 e] at hv
      simp at hv
    have hlt : g < w'.heap.size := (Array.getElem?_eq_some_iff.1 hc).1
    obtain ⟨e, wf', p⟩ := below_evo wf hb hg hlt (.r 0)
    have hS : ∀ j, ¬ M.S g j := fun j hs => by have := wf.slt hs; omega
    refine ⟨_, rfl, e, wf' (by simp), p, rfl, .inr ⟨by simpa using hne, g, 0, cap, by simpa using hv, alloc_own, by simpa using h1, strs_els fun j x hj => ?_, ⟨cur, t, (0, 0), hc, by simp [h3], by simp⟩, fun _ => hS, fun h => by simp at h⟩⟩
    have hjl : j < l.length := (List.getElem?_eq_some_iff.1 hj).1
    have : (cur.toList.take (l.length * 1))[j]? = some (encStr x) := by rw [h4]; simp [hj]
    rw [List.getElem?_take] at this
    simp only [Nat.mul_one, if_pos hjl] at this
    simp only [cellAt, World.cell?, Mem.alloc, hc]
    simpa using this

theorem values_gives {w : World} {b : Nat} {sv : Value} {zs : List (List UInt8)} (hlen : zs.length ≤ lim) (hB : b < w.heap.size) (hc : w.cell? ⟨b, 0, none⟩ = some sv)
    (hs : (sv = .slice none 0 0 ∧ zs = []) ∨ ∃ b' o cap, sv = .slice (some ⟨b', o, none⟩) zs.length cap ∧ (0 < zs.length → b' < w.heap.size) ∧ ∀ j, j < zs.length → w.cell? ⟨b', o + j, none⟩ = some (encStr (zs[j]?.getD []))) :
    GivesB Fence.wide 2 Try.prog 27 #[.pointer (some ⟨b, 0, none⟩)] encStr (fun ss => ss = zs) zs.length w := by
  intro l J W hW hJB hJ hY h0
  have hc' := (hW.cell (p := ⟨b, 0, none⟩) hB).trans hc
  rcases hs with ⟨rfl, rfl⟩ | ⟨b', o, cap, rfl, hb', hcs⟩
  · exact (Try.values1_nil_in Fence.wide 2 trivial rfl l b J W hc' h0).mono fun e W' ⟨he, hj⟩ => ⟨he, [], rfl, hj⟩
  · refine (Try.values1_in Fence.wide 2 trivial rfl (by omega) l b w.heap.size b' o zs.length cap zs (by simp [lim] at hlen; omega) hb' J (fun pre x W1 hj hp => (hY pre x W1 hj hp).mono fun e W' ⟨e1, e2, e3⟩ => ?_) W hc' (fun j hj => ?_) h0).mono ?_
    · refine ⟨e1, e2, ?_⟩
      have k1 := hJB _ _ hj
      have k2 := hJB _ _ e2
      exact ⟨k2.os.trans k1.os.symm, k2.tape.trans k1.tape.symm, k2.output.trans k1.output.symm, e3.size, fun k hk => (k2.block k hk).trans (k1.block k hk).symm⟩
    · exact (hW.cell (p := ⟨b', o + j, none⟩) (hb' (by omega))).trans (hcs j hj)
    · rintro e W' ⟨he, hj⟩
      exact ⟨he, _, rfl, by rw [Try.upto_all] at hj; exact hj⟩

theorem ok_sorted : FnOk Try.prog (fun _ vs store => pSortedS 27 vs store) 13 := by
  intro M vs args store r store' wf ho hA hS hr
  simp only [pSortedS] at hr
  split at hr
  · rename_i g' xs
    split at hr
    · rename_i hg
      subst hg
      split at hr
      · rename_i hstr
        split at hr
        · rename_i hlim
          simp only [Option.some.injEq, Prod.mk.injEq] at hr
          obtain ⟨rfl, rfl⟩ := hr
          refine ⟨⟨_, Try.func13, rfl, by kernel_rfl⟩, ?_⟩
          obtain ⟨hl, hx⟩ := hA
          obtain ⟨_, v, hv, hh⟩ := hx 0 _ rfl
          have hargs : args = [v] := by
            cases args with
            | nil => simp at hv
            | cons a r =>
              simp only [List.length_cons, List.length_nil] at hl
              have : r = [] := List.length_eq_zero_iff.1 (by omega)
              subst this
              simpa using hv
          subst hargs
          simp only [Has, RepV, Rep, List.cons.injEq, and_true] at hh
          obtain ⟨b, sv, rfl, hSb, hcb, hsv⟩ := hh
          have hB := wf.slt hSb
          have hgives : GivesB Fence.wide 2 Try.prog 27 #[.pointer (some ⟨b, 0, none⟩)] encStr (fun ss => ss = xs.map strOf) (xs.map strOf).length M.w := by
            refine values_gives (by simpa using hlim) hB hcb ?_
            rcases hsv with ⟨e1, e2⟩ | ⟨b', o, cap, e1, e2, e3, e4⟩
            · exact .inl ⟨e1, by simp [e2]⟩
            · refine .inr ⟨b', o, cap, by simpa using e1, fun h => wf.slt (e3 0 (by simpa using h)), fun j hj => els_strs e4 hstr j (by simpa using hj)⟩
          have cS := VsZ.sorted_in Try.sortedA Fence.wide 5 trivial trivial trivial trivial rfl (by omega) (Try.sortsA _) (enters_of Try.func26 (by kernel_rfl) rfl) 27 #[.pointer (some ⟨b, 0, none⟩)] trivial (enters_of Try.func27 (by kernel_rfl) rfl) _ _ (show _ ≤ maxLen by simp [lim, maxLen] at *; omega) (by simp [lim] at *; omega) _ hgives
          change CallsIn _ _ Try.prog 13 _ _ _ at cS
          refine (callsIn_wide.1 cS).mono ?_
          rintro e w' ⟨v, ss, rfl, rfl, hrow, hnil, hb⟩
          rw [sortS_eq] at hrow
          obtain ⟨M', e1, e2, e3, e4, e5, e6⟩ := ownsRow_arr (l := sortS (xs.map strOf)) wf (by rw [sortS_length]; exact hrow) (by rw [hnil]; constructor <;> intro h <;> (apply List.eq_nil_of_length_eq_zero; have := sortS_length (xs.map strOf); simp_all)) hb
          refine ⟨v, M', rfl, e1.symm, e2, e3, ?_, ?_⟩
          · exact e6
          · exact StoreRep.pres e2.grow (fun id b h => by rw [e5] at h; exact h) (fun b k h _ => e4 b k h) hS
        · simp at hr
      · simp at hr
    · simp at hr
  · simp at hr

theorem args_one {args : List Value} {v : Value} (hl : args.length = 1) (hv : args[0]? = some v) : args = [v] := by
  cases args with
  | nil => simp at hv
  | cons a r =>
    simp only [List.length_cons] at hl
    have : r = [] := List.length_eq_zero_iff.1 (by omega)
    subst this
    simpa using hv

/-- A new row is owned. -/
theorem ownsRow_flat {M : Mem} {w' : World} {t : TypeId} {v : Value} {xs : List AV} {vs : List Value} (wf : M.Wf) (h : w'.ownsRow M.w.heap.size t 1 v xs.length vs) (hne : xs ≠ []) (hF : Flat M.S M.G M.w 1 xs vs) (hb : Below M.w.heap.size M.w w') :
    ∃ M', M'.w = w' ∧ Evo M M' ∧ M'.Wf ∧ (∀ b q, M.own b = some q → Pres M M' b) ∧ M'.G = M.G ∧ OwnArr M' (.r 0) true 1 xs v := by
  rcases h.2 with ⟨hv, hn⟩ | ⟨g, cap, cur, hv, hg, hc, h1, h2, h3, h4⟩
  · exact absurd (List.eq_nil_of_length_eq_zero hn) hne
  · have hlt : g < w'.heap.size := (Array.getElem?_eq_some_iff.1 hc).1
    obtain ⟨e, wf', p⟩ := below_evo wf hb hg hlt (.r 0)
    have hS : ∀ j, ¬ M.S g j := fun j hs => by have := wf.slt hs; omega
    refine ⟨_, rfl, e, wf' (by simp), p, rfl, .inr ⟨hne, g, 0, cap, hv, alloc_own, h1, ?_, ⟨cur, t, (0, 0), hc, by simp [h3], by simp⟩, fun _ => hS, fun h => by simp at h⟩⟩
    refine (hF.mono e.grow).els ?_
    refine at_of_block (c := cur) hc vs 0 fun j u hj => ?_
    have := hF.length
    have hjl : j < vs.length := (List.getElem?_eq_some_iff.1 hj).1
    rw [← h4, List.getElem?_take] at hj
    split at hj
    · simpa using hj
    · simp at hj

theorem clone_ok {M : Mem} {xs : List AV} {v : Value} (wf : M.Wf) (hlim : xs.length ≤ lim) (hv : SlC M 1 xs v) (hz : xs = [] → v = .slice none 0 0 ∨ ∃ a cap, v = .slice (some a) 0 cap) :
    Calls Try.prog 31 #[v] M.w fun e w' => ∃ v' M', e = .returned v' ∧ M'.w = w' ∧ Evo M M' ∧ M'.Wf ∧ (∀ b q, M.own b = some q → Pres M M' b) ∧ M'.G = M.G ∧ OwnArr M' (.r 0) true 1 xs v' := by
  by_cases hx : xs = []
  · subst hx
    rcases hz rfl with rfl | ⟨a, cap, rfl⟩
    · refine (Try.clone_nil 0 0 M.w).mono ?_
      rintro e w' ⟨rfl, rfl⟩
      exact ⟨_, M, rfl, rfl, .refl M, wf, fun b q h => ⟨rfl, rfl, fun _ h => h⟩, rfl, .inl ⟨rfl, .inl rfl⟩⟩
    · refine (Try.clone_zero a cap M.w).mono ?_
      rintro e w' ⟨g, rfl, hb⟩
      obtain ⟨e, wf', p⟩ := below_evo0 wf hb
      exact ⟨_, _, rfl, rfl, e, wf', p, rfl, .inl ⟨rfl, .inr ⟨g, 0, rfl⟩⟩⟩
  · rcases hv with ⟨h0, _⟩ | ⟨b, o, cap, rfl, _, hE⟩
    · exact absurd h0 hx
    · obtain ⟨vs, hF, hA⟩ := hE.flat
      have hl := hF.length
      refine (Try.clone_bytes b o xs.length cap vs M.w (by omega) hF.one (by simp [lim] at hlim; omega) fun j u hj => ?_).mono ?_
      · have := hA.get hj
        exact this
      · rintro e w' ⟨v', rfl, hown, _, hb⟩
        obtain ⟨M', h1, h2, h3, h4, h5, h6⟩ := ownsRow_flat wf hown hx hF hb
        exact ⟨v', M', rfl, h1, h2, h3, h4, h5, h6⟩

theorem prim_args {M : Mem} {x : AV} {args : List Value} (hA : ArgsRep M [x] args) : ∃ v, args = [v] ∧ Has M (.r 0) x v := by
  obtain ⟨hl, hx⟩ := hA
  obtain ⟨_, v, hv, hh⟩ := hx 0 _ rfl
  exact ⟨v, args_one hl hv, hh⟩

theorem ok_clone : FnOk Try.prog (fun _ vs store => pClone1 vs store) 31 := by
  intro M vs args store r store' wf ho hA hS hr
  have go : ∀ {xs : List AV} {v : Value}, xs.length ≤ lim → args = [v] → SlC M 1 xs v → r = .sl (.own true) 1 xs → store' = store → (∃ fn, Try.prog.funcs[31]? = some fn ∧ fn.body.isNone = false ∧ (fn.name == "runtime.NumGoroutine") = false) ∧
      Calls Try.prog 31 args.toArray M.w fun e w' => ∃ v M', e = .returned v ∧ w' = M'.w ∧ Evo M M' ∧ M'.Wf ∧ ResRep M' r v ∧ StoreRep M' store' := by
    rintro xs v hlim rfl hv rfl rfl
    refine ⟨⟨_, Try.func31, rfl, by kernel_rfl⟩, (clone_ok wf hlim hv fun h => ?_).mono ?_⟩
    · rcases hv with ⟨_, h2⟩ | ⟨b, o, cap, h2, _⟩
      · exact .inl h2
      · subst h; exact .inr ⟨_, cap, h2⟩
    · rintro e w' ⟨v', M', rfl, h1, h2, h3, h4, h5, h6⟩
      exact ⟨v', M', rfl, h1.symm, h2, h3, h6, StoreRep.pres h2.grow (fun id b h => by rw [h5] at h; exact h) (fun b k h _ => h4 b k h) hS⟩
  simp only [pClone1] at hr
  split at hr
  · split at hr
    · rename_i hlim
      simp only [Option.some.injEq, Prod.mk.injEq] at hr
      obtain ⟨v, hv, hh⟩ := prim_args hA
      exact go hlim hv (rep_content hh) hr.1.symm hr.2.symm
    · simp at hr
  · split at hr
    · rename_i hlim
      simp only [Option.some.injEq, Prod.mk.injEq] at hr
      obtain ⟨v, hv, hh⟩ := prim_args hA
      exact go hlim hv (rep_content_full hh).1 hr.1.symm hr.2.symm
    · simp at hr
  · simp at hr
end Go.VS
/- slices.Compact at strings keeps to what the interpreter says of it. -/
set_option linter.unusedVariables false
namespace Go.VS
open Go.Proofs Go.RowKit Go.Sort

theorem putRow_block {α : Type} [Inhabited α] (enc : α → Value) (w : World) (blk off : Nat) (d : Array α) {c : Array Value} {e : TypeId} {fr : Nat × Nat} (h : w.heap[blk]? = some (.cells c e fr)) :
    ∃ c', (putRow enc w blk off d).heap[blk]? = some (.cells c' e fr) ∧ c'.size = c.size := by
  obtain ⟨hlt, hk⟩ := Array.getElem?_eq_some_iff.1 h
  refine ⟨putCells enc off d c, ?_, ?_⟩
  · simp only [putRow, mapBlock]
    rw [Array.getElem?_modify]
    simp [h, onCells]
  · simp [putCells]

theorem putRow_other {α : Type} [Inhabited α] (enc : α → Value) (w : World) (blk off : Nat) (d : Array α) {b : Nat} (h : b ≠ blk) : (putRow enc w blk off d).heap[b]? = w.heap[b]? := by
  simp only [putRow, mapBlock]
  rw [Array.getElem?_modify]
  simp [Ne.symm h]

theorem ok_compact : FnOk Try.prog (fun _ vs store => pCompactS vs store) 12 := by
  intro M vs args store r store' wf ho hA hS hr
  simp only [pCompactS] at hr
  split at hr
  · rename_i xs
    split at hr
    · rename_i hstr
      split at hr
      · rename_i hlim
        simp only [Option.some.injEq, Prod.mk.injEq] at hr
        obtain ⟨rfl, rfl⟩ := hr
        refine ⟨⟨_, Try.func12, rfl, by kernel_rfl⟩, ?_⟩
        obtain ⟨v, rfl, hh⟩ := prim_args hA
        change OwnArr M (.r 0) true 1 xs v at hh
        rcases hh with ⟨rfl, hv⟩ | ⟨hne, b, o, cap, rfl, hown, hcap, hE, ⟨c, e, fr, hc, hsz, hfr⟩, hT, _⟩
        · have hc : ∀ a, Calls Try.prog 12 #[.slice a 0 0] M.w fun e w' => e = .returned (.slice a 0 0) ∧ w' = M.w := fun a => Any.slices_Compact_string_empty Try.laysCompact a 0 M.w
          have fin : ∀ a, (v = .slice a 0 0) → (a = none ∨ ∃ b o, a = some ⟨b, o, none⟩) → Calls Try.prog 12 [v].toArray M.w fun e w' => ∃ v M', e = .returned v ∧ w' = M'.w ∧ Evo M M' ∧ M'.Wf ∧ ResRep M' (.sl (.own true) 1 ((compS (([] : List AV).map strOf)).map .str)) v ∧ StoreRep M' store := by
            rintro a rfl ha
            refine (hc a).mono ?_
            rintro e w' ⟨rfl, rfl⟩
            refine ⟨_, M, rfl, rfl, .refl M, wf, ?_, hS⟩
            refine .inl ⟨rfl, ?_⟩
            rcases ha with rfl | ⟨b, o, rfl⟩
            · exact .inl rfl
            · exact .inr ⟨b, o, rfl⟩
          rcases hv with hv | ⟨b, o, hv⟩
          · exact fin none hv (.inl rfl)
          · exact fin _ hv (.inr ⟨b, o, rfl⟩)
        · have hl : xs.length = (xs.map strOf).length := by simp
          have hb : b < M.w.heap.size := wf.odom b _ hown
          have hH : Holds encStr M.w b o (xs.map strOf).toArray := by
            intro j hj
            have hj' : j < xs.length := by simpa using hj
            have h1 := els_strs hE hstr j hj'
            refine ⟨?_, ?_⟩
            · rw [h1]; simp [hj']
            · have := hfr (o + j) (by omega)
              simpa [World.frozen?, hc] using this
          have hcall := Any.slices_Compact_string Try.laysCompact b o cap (xs.map strOf) M.w hH (by simp [lim] at *; omega) (by simpa using hcap)
          rw [← hl] at hcall
          refine (hcall : Calls Try.prog 12 #[_] _ _).mono ?_
          rintro e' w' ⟨rfl, q, rfl⟩
          rw [compS_eq]
          have hle := compS_length_le (xs.map strOf)
          have hHa : Holds encStr (Sort.ahead M.w q) b o (xs.map strOf).toArray := holds_ahead encStr M.w q b o _ hH
          have hbl : (Sort.ahead M.w q).heap[b]? = some (.cells c e fr) := hc
          obtain ⟨c', hc', hsz'⟩ := putRow_block encStr (Sort.ahead M.w q) b o (compS (xs.map strOf) ++ List.replicate (xs.length - (compS (xs.map strOf)).length) []).toArray hbl
          have hcells : ∀ j x, (compS (xs.map strOf))[j]? = some x → cellAt (putRow encStr (Sort.ahead M.w q) b o (compS (xs.map strOf) ++ List.replicate (xs.length - (compS (xs.map strOf)).length) []).toArray) b (o + j) = some (encStr x) := by
            intro j x hj
            have hjl : j < (compS (xs.map strOf)).length := (List.getElem?_eq_some_iff.1 hj).1
            have hx : (compS (xs.map strOf))[j] = x := (List.getElem?_eq_some_iff.1 hj).2
            have := cell?_putRow encStr (Sort.ahead M.w q) b o _ (compS (xs.map strOf) ++ List.replicate (xs.length - (compS (xs.map strOf)).length) []).toArray hHa (by simp at hle ⊢; omega) j (by simp; omega)
            rw [cellAt, this]
            have hj2 : j < (compS (xs.map strOf) ++ List.replicate (xs.length - (compS (xs.map strOf)).length) ([] : List UInt8)).length := by simp; omega
            have e3 : (compS (xs.map strOf) ++ List.replicate (xs.length - (compS (xs.map strOf)).length) ([] : List UInt8)).toArray[j]! = x := by
              rw [getElem!_pos _ j (by simpa using hj2)]
              simp only [List.getElem_toArray]
              rw [List.getElem_append_left hjl, hx]
            rw [e3]
          generalize hW : putRow encStr (Sort.ahead M.w q) b o (compS (xs.map strOf) ++ List.replicate (xs.length - (compS (xs.map strOf)).length) []).toArray = w' at hc' hcells
          have hoth : ∀ k, k ≠ b → w'.heap[k]? = M.w.heap[k]? := fun k hk => by rw [← hW]; exact putRow_other encStr _ b o _ hk
          have hsize : w'.heap.size = M.w.heap.size := by rw [← hW]; simp [Sort.ahead]
          have hgrow : Grow M.S M.G M.w M.S M.G w' := ⟨fun _ _ h => h, fun _ _ h => h, fun k j hs => cellAt_of_heap (hoth k (fun e => hT rfl j (e ▸ hs))) j⟩
          have hpres : ∀ k q', M.own k = some q' → q' ≠ .r 0 → Pres M { M with w := w' } k := fun k q' hk hq => ⟨rfl, hoth k (fun e => by subst e; rw [hown] at hk; simp only [Option.some.injEq] at hk; exact hq hk.symm), fun _ h => h⟩
          refine ⟨_, { M with w := w' }, rfl, rfl, ⟨hgrow, by show _ ≤ w'.heap.size; omega, by rw [← hW]; rfl, by rw [← hW]; rfl, by rw [← hW]; rfl, fun k _ hk => hoth k (fun e => by subst e; rw [hown] at hk; simp at hk), fun k _ hk => hk, fun k j hs => .inl hs⟩, ⟨fun k j hs => ?_, fun k q' hk => by show k < w'.heap.size; rw [hsize]; exact wf.odom k q' hk, wf.gown⟩, ?_, ?_⟩
          · have hs : M.S k j := hs
            show (cellAt w' k j).isSome = true
            rw [hgrow.keep k j hs]; exact wf.sdom k j hs
          · refine .inr ⟨by simpa using compS_ne (by simpa using hne), b, o, cap, by simp, hown, by simp at hle ⊢; omega, strs_els fun j x hj => hcells j x hj, ⟨c', e, fr, hc', by rw [hsz']; exact hsz, by rw [hsz']; exact hfr⟩, fun _ => hT rfl, fun h => by simp at h⟩
          · exact StoreRep.pres hgrow (fun _ _ h => h) (fun k q' hk hq => hpres k q' hk (by rintro rfl; simp [Key.isG] at hq)) hS
      · simp at hr
    · simp at hr
  · simp at hr
end Go.VS
