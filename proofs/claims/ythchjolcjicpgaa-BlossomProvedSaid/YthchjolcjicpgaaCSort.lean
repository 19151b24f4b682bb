/- The contract of slices.Sort at []int, over partial heaps. -/
import Derived.Shelf.Sort.Plain
import Derived.Shelf.Slices.In.SortNone
import Derived.Test.YthchjolcjicpgaaFPair
namespace Go.Proofs.Ythchjolcjicpgaa
open Go.HW Go.Shelf Go.Sort

def sortRen : Ren := ⟨fun x => match x with | 189 => 42 | 125 => 85 | 257 => 84 | 128 => 112 | 129 => 113 | 294 => 103 | 295 => 104 | 296 => 105 | 297 => 106 | 298 => 107 | 299 => 108 | 216 => 109 | 300 => 110 | 301 => 111 | 328 => 121 | 329 => 122 | 330 => 123 | 331 => 124 | 332 => 125 | 215 => 126 | 343 => 133 | n => n,
  fun x => match x with | 28 => 26 | 3 => 3 | 46 => 133 | 0 => 0 | 51 => 164 | 53 => 166 | 4 => 4 | 183 => 157 | 182 => 156 | 131 => 161 | 5 => 5 | 9 => 9 | 218 => 173 | 222 => 177 | 228 => 184 | 229 => 48 | n => n, fun n => n⟩

theorem laysSort : Lays.n189 Try.prog sortRen :=
  { mixed := Eq.refl true, f125 := Eq.trans Try.func85 (congrArg some (Eq.refl (Body.n125 sortRen))),
    f128 := Eq.trans Try.func112 (congrArg some (Eq.refl (Body.n128 sortRen))),
    f129 := Eq.trans Try.func113 (congrArg some (Eq.refl (Body.n129 sortRen))),
    f189 := Eq.trans Try.func42 (congrArg some (Eq.refl (Body.n189 sortRen))),
    f215 := Eq.trans Try.func126 (congrArg some (Eq.refl (Body.n215 sortRen))),
    f216 := Eq.trans Try.func109 (congrArg some (Eq.refl (Body.n216 sortRen))),
    f257 := Eq.trans Try.func84 (congrArg some (Eq.refl (Body.n257 sortRen))),
    f294 := Eq.trans Try.func103 (congrArg some (Eq.refl (Body.n294 sortRen))),
    f295 := Eq.trans Try.func104 (congrArg some (Eq.refl (Body.n295 sortRen))),
    f296 := Eq.trans Try.func105 (congrArg some (Eq.refl (Body.n296 sortRen))),
    f297 := Eq.trans Try.func106 (congrArg some (Eq.refl (Body.n297 sortRen))),
    f298 := Eq.trans Try.func107 (congrArg some (Eq.refl (Body.n298 sortRen))),
    f299 := Eq.trans Try.func108 (congrArg some (Eq.refl (Body.n299 sortRen))),
    f300 := Eq.trans Try.func110 (congrArg some (Eq.refl (Body.n300 sortRen))),
    f301 := Eq.trans Try.func111 (congrArg some (Eq.refl (Body.n301 sortRen))),
    f328 := Eq.trans Try.func121 (congrArg some (Eq.refl (Body.n328 sortRen))),
    f329 := Eq.trans Try.func122 (congrArg some (Eq.refl (Body.n329 sortRen))),
    f330 := Eq.trans Try.func123 (congrArg some (Eq.refl (Body.n330 sortRen))),
    f331 := Eq.trans Try.func124 (congrArg some (Eq.refl (Body.n331 sortRen))),
    f332 := Eq.trans Try.func125 (congrArg some (Eq.refl (Body.n332 sortRen))),
    f343 := Eq.trans Try.func133 (congrArg some (Eq.refl (Body.n343 sortRen))), t0 := Try.underlying0,
    a0 := Try.isAgg0, z0 := Try.sizeOf0, v0 := Try.zeroValue0, t3 := Try.underlying3, a3 := Try.isAgg3, z3 := Try.sizeOf3,
    v3 := Try.zeroValue3, t4 := Try.underlying4, a4 := Try.isAgg4, z4 := Try.sizeOf4, v4 := Try.zeroValue4,
    t5 := Try.underlying5, a5 := Try.isAgg5, z5 := Try.sizeOf5, v5 := Try.zeroValue5, t9 := Try.underlying9,
    a9 := Try.isAgg9, z9 := Try.sizeOf9, v9 := Try.zeroValue9, t28 := Try.underlying26, a28 := Try.isAgg26,
    z28 := Try.sizeOf26, v28 := Try.zeroValue26, t46 := Try.underlying133, a46 := Try.isAgg133, z46 := Try.sizeOf133,
    v46 := Try.zeroValue133, t51 := Try.underlying164, a51 := Try.isAgg164, z51 := Try.sizeOf164, v51 := Try.zeroValue164,
    t53 := Try.underlying166, a53 := Try.isAgg166, z53 := Try.sizeOf166, v53 := Try.zeroValue166,
    t131 := Try.underlying161, a131 := Try.isAgg161, z131 := Try.sizeOf161, v131 := Try.zeroValue161,
    t182 := Try.underlying156, a182 := Try.isAgg156, z182 := Try.sizeOf156, v182 := Try.zeroValue156,
    t183 := Try.underlying157, a183 := Try.isAgg157, z183 := Try.sizeOf157, v183 := Try.zeroValue157,
    t218 := Try.underlying173, a218 := Try.isAgg173, z218 := Try.sizeOf173, v218 := Try.zeroValue173,
    t222 := Try.underlying177, a222 := Try.isAgg177, z222 := Try.sizeOf177, v222 := Try.zeroValue177,
    t228 := Try.underlying184, a228 := Try.isAgg184, z228 := Try.sizeOf184, v228 := Try.zeroValue184,
    t229 := Try.underlying48, a229 := Try.isAgg48, z229 := Try.sizeOf48, v229 := Try.zeroValue48 }

theorem en42 : entersB Try.prog 42 := ⟨_, Try.func42, by kernel_rfl, by kernel_rfl⟩

theorem sort_c {S h : Heap} {x : Value} {l : List Nat} {bk : Option Nat} (gl : GL 3 S h False x l bk) (ls : Le S h) (hl : l.length < 1000000000) :
    HCalls Try.prog 42 #[x] h fun e h' => e = .returned (.tuple #[]) ∧ Le S h' ∧ Keep (fun b => bk ≠ some b) h h' ∧ ∃ l' : List Nat, l'.Perm l ∧ l'.Pairwise (· ≤ ·) ∧ GL 3 S h' False x l' bk := by
  intro W0 w sw
  cases bk with
  | none =>
    obtain ⟨rfl, rfl⟩ := gl
    refine (Any.slices_Sort_int_none laysSort none 0 w).mono ?_
    rintro e w' ⟨rfl, rfl⟩
    exact ⟨h, sw, rfl, ls, Keep.refl _ _, [], List.Perm.refl _, List.Pairwise.nil, rfl, rfl⟩
  | some b =>
    obtain ⟨f, c, rfl, hc, hi, h1, h2⟩ := gl
    obtain ⟨cs, hb, hcs⟩ := sw.info _ _ _ hi
    have hlt : b < w.heap.size := by
      rcases Nat.lt_or_ge b w.heap.size with h | h
      · exact h
      · rw [Array.getElem?_eq_none h] at hb; cases hb
    let zs : List Int := l.map fun (i : Nat) => (i : Int)
    have hzl : zs.length = l.length := by simp [zs]
    have hH : Holds (Value.int .i64) w b 0 zs.toArray := by
      intro j hj
      have hj' : j < l.length := by simpa [zs] using hj
      refine ⟨?_, ?_⟩
      · rw [Nat.zero_add, sw.cell _ _ _ (h1 j l[j] (List.getElem?_eq_getElem hj'))]
        congr 2
        rw [getElem!_pos _ j hj]
        simp [zs]
      · simp only [World.frozen?, hb]
        simp
    have key := Any.slices_Sort_int laysSort b 0 c zs w hH hlt (by rw [hzl]; omega)
    rw [hzl] at key
    refine key.mono ?_
    rintro e w' ⟨rfl, n, os, rfl⟩
    obtain ⟨l', hl'⟩ : ∃ l' : List Nat, (zs.mergeSort fun x y => decide (x ≤ y)) = l'.map fun (i : Nat) => (i : Int) := by
      refine ⟨(zs.mergeSort fun x y => decide (x ≤ y)).map Int.toNat, ?_⟩
      rw [List.map_map]
      refine (List.map_id _).symm.trans (List.map_congr_left fun a ha => ?_)
      have : a ∈ zs := (List.mergeSort_perm zs _).mem_iff.1 ha
      obtain ⟨i, _, rfl⟩ := List.mem_map.1 this
      simp
    have hp : l'.Perm l := by
      have := (List.mergeSort_perm zs fun x y => decide (x ≤ y)).map Int.toNat
      rw [hl'] at this
      simpa [zs, List.map_map, Function.comp_def] using this
    have hs : l'.Pairwise (· ≤ ·) := by
      have := List.pairwise_mergeSort (le := fun (x y : Int) => decide (x ≤ y)) (fun a b c h1 h2 => by simp at *; omega) (fun a b => by simp; omega) zs
      rw [hl', List.pairwise_map] at this
      exact this.imp fun h => by simpa using h
    have hll : l'.length = l.length := hp.length_eq
    rw [hl']
    obtain ⟨d, hd⟩ : ∃ d : Array Int, d = (l'.map fun (i : Nat) => (i : Int)).toArray := ⟨_, rfl⟩
    have hds : d.size = l.length := by rw [hd]; simp [hll]
    rw [← hd]
    have Hh : Holds (Value.int .i64) (Sort.ahead w n) b 0 zs.toArray := hH
    have hsz : d.size = zs.toArray.size := by simp [hds, hzl]
    obtain ⟨w1, hw1⟩ : ∃ w1, w1 = putRow (Value.int .i64) (Sort.ahead w n) b 0 d := ⟨_, rfl⟩
    have hsize : w1.heap.size = w.heap.size := by rw [hw1, size_putRow]; rfl
    have hblk : ∀ b', w1.heap[b']? = if b = b' then (w.heap[b']?).map (onCells (putCells (Value.int .i64) 0 d)) else w.heap[b']? := by
      intro b'
      rw [hw1]
      show ((Sort.ahead w n).heap.modify b _)[b']? = _
      rw [Array.getElem?_modify]
      rfl
    rw [← hw1]
    refine ⟨⟨fun b' i => if b' = b ∧ i < l.length then some (.int .i64 (l'[i]?.getD 0 : Nat)) else h.cell b' i, h.info⟩, ⟨⟨fun b' i v hv => ?_, fun b' t n' hv => ?_⟩, sw.own, fun i hi => ?_, ?_, ?_, ?_, ?_⟩, rfl, ?_, ?_, l', hp, hs, f, c, by rw [hll], by rw [hll]; exact hc, hi, fun j i hj => ?_, fun h => h.elim⟩
    · simp only at hv
      have hb' : b' < w.heap.size := by
        split at hv
        · next e => rw [e.1]; exact hlt
        · exact cell?_lt (sw.cell _ _ _ hv)
      rw [cell?_grow _ _ _ (by show b' < w1.heap.size; omega)]
      split at hv
      · next e =>
        obtain ⟨rfl, hi⟩ := e
        have := cell?_putRow (Value.int .i64) (Sort.ahead w n) b' 0 zs.toArray d Hh hsz i (by omega)
        rw [Nat.zero_add] at this
        rw [hw1, this, ← hv]
        congr 2
        rw [getElem!_pos _ i (by omega)]
        have hi' : i < l'.length := by omega
        rw [List.getElem?_eq_getElem hi']
        simp [hd]
      · next e =>
        rw [hw1, cell?_putRow_other]
        · exact sw.cell _ _ _ hv
        · by_cases e2 : b' = b
          · right; right
            simp only
            have : ¬ i < l.length := fun h => e ⟨e2, h⟩
            omega
          · exact .inl e2
    · obtain ⟨c', h3, h4⟩ := sw.info _ _ _ hv
      have hb' : b' < w.heap.size := by
        rcases Nat.lt_or_ge b' w.heap.size with h | h
        · exact h
        · rw [Array.getElem?_eq_none h] at h3; cases h3
      rw [heap_grow_old _ _ (by omega), hblk]
      split
      · exact ⟨putCells (Value.int .i64) 0 d c', by rw [h3]; rfl, by simp [putCells, h4]⟩
      · exact ⟨c', h3, h4⟩
    · have h3 := sw.size
      have h4 := sw.own _ _ (by assumption : h.info b = _)
      rw [heap_grow_old _ _ (by omega), hblk, if_neg (by omega)]
      exact sw.old i hi
    · have h3 := sw.size
      have : w1.heap.size ≤ (grow w1 os).heap.size := by simp [grow]
      omega
    · rw [hw1]; exact sw.os
    · rw [hw1]; exact sw.out
    · rw [hw1]; exact sw.tape
    · refine ⟨fun b' i v hv => ?_, ls.info⟩
      have : b' ≠ b := f.ne hv
      simp only
      rw [if_neg fun e => this e.1]
      exact ls.cell _ _ _ hv
    · intro b' hne _
      have : b' ≠ b := fun e => hne (by rw [e])
      refine ⟨fun i => ?_, rfl⟩
      simp only
      rw [if_neg fun e => this e.1]
    · have hj' : j < l'.length := (List.getElem?_eq_some_iff.1 hj).1
      simp only
      rw [if_pos (by simp; omega), hj]
      rfl

end Go.Proofs.Ythchjolcjicpgaa
