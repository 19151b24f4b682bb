/- MADE BY gen.py: what is asked so that a function's call does what is said, in the order of its text; each held against the loaded code by the kernel. -/
import Derived.Test.YthchjolcjicpgaaTab
namespace Go.Proofs.Ythchjolcjicpgaa
open Go.HW

/-- (*compass/blossom.search).other -/
def F59 (s_ i_ v_ : Value) (R : Ending → Heap → Prop) (h : Heap) : Prop :=
 PV (nilV s_) fun v8 =>
 PV (fldV T 101 v8 0) fun v9 =>
 PV (fldV T 25 v9 1) fun v10 =>
 PV (ldV T 23 v10 h) fun v11 =>
 PV (ixV T 23 v11 i_) fun v13 =>
 PV (fldV T 40 v13 0) fun v14 =>
 PV (ldV T 3 v14 h) fun v15 =>
 PV (nilV s_) fun v17 =>
 PV (fldV T 101 v17 0) fun v18 =>
 PV (fldV T 25 v18 1) fun v19 =>
 PV (ldV T 23 v19 h) fun v20 =>
 PV (ixV T 23 v20 i_) fun v22 =>
 PV (fldV T 40 v22 1) fun v23 =>
 PV (ldV T 3 v23 h) fun v24 =>
 PV (binV T .add 3 v15 v24) fun v25 =>
 PV (binV T .sub 3 v25 v_) fun v27 =>
 R (.returned v27) h

theorem H59 {s_ i_ v_ : Value} {R : Ending → Heap → Prop} {h : Heap} (H : F59 s_ i_ v_ R h) : HCalls Try.prog 59 #[s_, i_, v_] h R := by
  have e : hw (opF Try.prog T 28) (drawF Try.prog T 28) 28 [] (Try.f59.body.getD .skip) (postF T [.tmp 6] R) (tm0 [s_, i_, v_]) h = F59 s_ i_ v_ R h := by kernel_rfl
  exact hcalls (args := [s_, i_, v_]) TOKT mixed Try.func59 (c := Try.f59.body.getD .skip) rfl Try.ntmps59 (rs := [.tmp 6]) rfl (by simp) (by rw [e]; exact H)
theorem en59 : entersB Try.prog 59 := ⟨_, Try.func59, by kernel_rfl, by kernel_rfl⟩

/-- (*compass/blossom.search).mate -/
def F57 (s_ v_ : Value) (R : Ending → Heap → Prop) (h : Heap) : Prop :=
 PV (nilV s_) fun v7 =>
 PV (fldV T 101 v7 2) fun v8 =>
 PV (ldV T 26 v8 h) fun v9 =>
 PV (ixV T 26 v9 v_) fun v11 =>
 PV (ldV T 3 v11 h) fun v12 =>
 CALL Try.prog 59 #[s_, v12, v_] h (fun v14 h_1 =>
 R (.returned v14) h_1) (fun ch h_1 => R (.panicked ch) h_1)

theorem H57 {s_ v_ : Value} {R : Ending → Heap → Prop} {h : Heap} (H : F57 s_ v_ R h) : HCalls Try.prog 57 #[s_, v_] h R := by
  have e : hw (opF Try.prog T 15) (drawF Try.prog T 15) 15 [] (Try.f57.body.getD .skip) (postF T [.tmp 4] R) (tm0 [s_, v_]) h = F57 s_ v_ R h := by kernel_rfl
  exact hcalls (args := [s_, v_]) TOKT mixed Try.func57 (c := Try.f57.body.getD .skip) rfl Try.ntmps57 (rs := [.tmp 4]) rfl (by simp) (by rw [e]; exact H)
theorem en57 : entersB Try.prog 57 := ⟨_, Try.func57, by kernel_rfl, by kernel_rfl⟩

/-- compass/blossom.newSearch -/
def F54 (g_ : Value) (R : Ending → Heap → Prop) (h : Heap) : Prop :=
 ∀ r, Heap.fresh h r →
 PV (ldV T 25 (Value.pointer (some ⟨r, 0, none⟩)) (Heap.new h r (Value.cells g_) 25)) fun v7 =>
 PV (fldV T 25 (Value.pointer (some ⟨r, 0, none⟩)) 0) fun v8 =>
 PV (ldV T 3 v8 (Heap.new h r (Value.cells g_) 25)) fun v9 =>
 alF (msV T 77 v9 v9) (Heap.new h r (Value.cells g_) 25) fun v10 h_1 =>
 PV (fldV T 25 (Value.pointer (some ⟨r, 0, none⟩)) 0) fun v11 =>
 PV (ldV T 3 v11 (Heap.new h r (Value.cells g_) 25)) fun v12 =>
 alF (msV T 26 v12 v12) h_1 fun v13 h_2 =>
 PV (buildV T 101 #[(0, v7), (1, v10), (2, v13)]) fun v14 =>
 ∀ r_1, Heap.fresh h_2 r_1 →
 PV (fldV T 25 (Value.pointer (some ⟨r, 0, none⟩)) 1) fun v16 =>
 PV (ldV T 23 v16 (Heap.new h_2 r_1 (Value.cells v14) 101)) fun v17 =>
 PV (lenV T 23 v17) fun v18 =>
 ∃ I : Nat → List Value → Heap → Prop, (∃ m, I m [(Value.int .i64 0)] (Heap.new h_2 r_1 (Value.cells v14) 101)) ∧
 ∀ m (X : Tm) h_3, I m [X 19] h_3 →
 PV (binV T .lss 3 (X 19) v18) fun v20 =>
 (ifV v20
 (PV (ixV T 23 v17 (X 19)) fun v22 =>
 PV (ldV T 40 v22 h_3) fun v23 =>
 ∀ r_2, Heap.fresh h_3 r_2 →
 PV (stV T 40 (Value.pointer (some ⟨r_2, 0, none⟩)) v23 (Heap.new h_3 r_2 #[(Value.int .i64 0), (Value.int .i64 0), (Value.int .i64 0), (Value.int .i64 0)] 40)) fun h_4 =>
 PV (fldV T 40 (Value.pointer (some ⟨r_2, 0, none⟩)) 0) fun v24 =>
 PV (ldV T 3 v24 h_4) fun v25 =>
 PV (fldV T 40 (Value.pointer (some ⟨r_2, 0, none⟩)) 1) fun v26 =>
 PV (ldV T 3 v26 h_4) fun v27 =>
 PV (binV T .neq 3 v25 v27) fun v28 =>
 (ifV v28
 (PV (nilV (Value.pointer (some ⟨r_1, 0, none⟩))) fun v30 =>
 PV (fldV T 101 v30 1) fun v31 =>
 PV (ldV T 77 v31 h_4) fun v32 =>
 PV (fldV T 40 (Value.pointer (some ⟨r_2, 0, none⟩)) 0) fun v33 =>
 PV (ldV T 3 v33 h_4) fun v34 =>
 PV (nilV (Value.pointer (some ⟨r_1, 0, none⟩))) fun v36 =>
 PV (fldV T 101 v36 1) fun v37 =>
 PV (ldV T 77 v37 h_4) fun v38 =>
 PV (fldV T 40 (Value.pointer (some ⟨r_2, 0, none⟩)) 0) fun v39 =>
 PV (ldV T 3 v39 h_4) fun v40 =>
 PV (ixV T 77 v38 v40) fun v41 =>
 PV (ldV T 26 v41 h_4) fun v42 =>
 alF (bsV T 26 1 #[(0, (X 19))]) h_4 fun v44 h_5 =>
 (26 = 26) ∧ AP T 26 v42 v44 (fun v45 h_6 =>
 Le h_5 h_6 ∧ (Cons h_6 → PV (ixV T 77 v32 v34) fun v46 =>
 PV (stV T 26 v46 v45 h_6) fun h_7 =>
 Cons h_7 → PV (nilV (Value.pointer (some ⟨r_1, 0, none⟩))) fun v48 =>
 PV (fldV T 101 v48 1) fun v49 =>
 PV (ldV T 77 v49 h_7) fun v50 =>
 PV (fldV T 40 (Value.pointer (some ⟨r_2, 0, none⟩)) 1) fun v51 =>
 PV (ldV T 3 v51 h_7) fun v52 =>
 PV (nilV (Value.pointer (some ⟨r_1, 0, none⟩))) fun v54 =>
 PV (fldV T 101 v54 1) fun v55 =>
 PV (ldV T 77 v55 h_7) fun v56 =>
 PV (fldV T 40 (Value.pointer (some ⟨r_2, 0, none⟩)) 1) fun v57 =>
 PV (ldV T 3 v57 h_7) fun v58 =>
 PV (ixV T 77 v56 v58) fun v59 =>
 PV (ldV T 26 v59 h_7) fun v60 =>
 alF (bsV T 26 1 #[(0, (X 19))]) h_7 fun v62 h_8 =>
 (26 = 26) ∧ AP T 26 v60 v62 (fun v63 h_9 =>
 Le h_8 h_9 ∧ (Cons h_9 → PV (ixV T 77 v50 v52) fun v64 =>
 PV (stV T 26 v64 v63 h_9) fun h_10 =>
 Cons h_10 → PV (binV T .add 3 (X 19) (Value.int .i64 1)) fun v65 =>
 ∃ m', m' < m ∧ I m' [v65] h_10)) h_8)) h_5)
 (PV (binV T .add 3 (X 19) (Value.int .i64 1)) fun v65 =>
 ∃ m', m' < m ∧ I m' [v65] h_4)))
 (PV (nilV (Value.pointer (some ⟨r_1, 0, none⟩))) fun v67 =>
 PV (fldV T 101 v67 2) fun v68 =>
 PV (ldV T 26 v68 h_3) fun v69 =>
 PV (lenV T 26 v69) fun v70 =>
 ∃ I_1 : Nat → List Value → Heap → Prop, (∃ m_1, I_1 m_1 [(Value.int .i64 0)] h_3) ∧
 ∀ m_1 (X_1 : Tm) h_4, I_1 m_1 [X_1 71] h_4 →
 PV (binV T .lss 3 (X_1 71) v70) fun v72 =>
 (ifV v72
 (PV (nilV (Value.pointer (some ⟨r_1, 0, none⟩))) fun v75 =>
 PV (fldV T 101 v75 2) fun v76 =>
 PV (ldV T 26 v76 h_4) fun v77 =>
 PV (ixV T 26 v77 (X_1 71)) fun v79 =>
 PV (stV T 3 v79 (Value.int .i64 (-1)) h_4) fun h_5 =>
 PV (binV T .add 3 (X_1 71) (Value.int .i64 1)) fun v80 =>
 ∃ m'_1, m'_1 < m_1 ∧ I_1 m'_1 [v80] h_5)
 (R (.returned (Value.pointer (some ⟨r_1, 0, none⟩))) h_4))))

theorem H54 {g_ : Value} {R : Ending → Heap → Prop} {h : Heap} (H : F54 g_ R h) : HCalls Try.prog 54 #[g_] h R := by
  have e : hw (opF Try.prog T 82) (drawF Try.prog T 82) 82 [] (Try.f54.body.getD .skip) (postF T [.tmp 2] R) (tm0 [g_]) h = F54 g_ R h := by kernel_rfl
  exact hcalls (args := [g_]) TOKT mixed Try.func54 (c := Try.f54.body.getD .skip) rfl Try.ntmps54 (rs := [.tmp 2]) rfl (by simp) (by rw [e]; exact H)
theorem en54 : entersB Try.prog 54 := ⟨_, Try.func54, by kernel_rfl, by kernel_rfl⟩

/-- (*compass/blossom.search).begin -/
def F90 (s_ root_ : Value) (R : Ending → Heap → Prop) (h : Heap) : Prop :=
 PV (nilV s_) fun v7 =>
 PV (fldV T 101 v7 0) fun v8 =>
 PV (fldV T 25 v8 0) fun v9 =>
 PV (ldV T 3 v9 h) fun v10 =>
 alF (msV T 26 v10 v10) h fun v15 h_1 =>
 alF (msV T 26 v10 v10) h_1 fun v17 h_2 =>
 alF (msV T 74 v10 v10) h_2 fun v19 h_3 =>
 PV (nilV s_) fun v20 =>
 PV (fldV T 101 v20 3) fun v21 =>
 PV (stV T 26 v21 v15 h_3) fun h_4 =>
 Le h_3 h_4 ∧ (Cons h_4 → PV (nilV s_) fun v22 =>
 PV (fldV T 101 v22 4) fun v23 =>
 PV (stV T 26 v23 v17 h_4) fun h_5 =>
 Le h_4 h_5 ∧ (Cons h_5 → PV (nilV s_) fun v24 =>
 PV (fldV T 101 v24 5) fun v25 =>
 PV (stV T 74 v25 v19 h_5) fun h_6 =>
 Cons h_6 → ∃ I : Nat → List Value → Heap → Prop, (∃ m, I m [(Value.int .i64 0)] h_6) ∧
 ∀ m (X : Tm) h_7, I m [X 27] h_7 →
 PV (binV T .lss 3 (X 27) v10) fun v28 =>
 (ifV v28
 (PV (nilV s_) fun v31 =>
 PV (fldV T 101 v31 3) fun v32 =>
 PV (ldV T 26 v32 h_7) fun v33 =>
 PV (nilV s_) fun v36 =>
 PV (fldV T 101 v36 4) fun v37 =>
 PV (ldV T 26 v37 h_7) fun v38 =>
 PV (ixV T 26 v33 (X 27)) fun v41 =>
 PV (stV T 3 v41 (X 27) h_7) fun h_8 =>
 Cons h_8 → PV (ixV T 26 v38 (X 27)) fun v42 =>
 PV (stV T 3 v42 (Value.int .i64 (-1)) h_8) fun h_9 =>
 Cons h_9 → PV (binV T .add 3 (X 27) (Value.int .i64 1)) fun v43 =>
 ∃ m', m' < m ∧ I m' [v43] h_9)
 (PV (nilV s_) fun v45 =>
 PV (fldV T 101 v45 5) fun v46 =>
 PV (ldV T 74 v46 h_7) fun v47 =>
 PV (ixV T 74 v47 root_) fun v49 =>
 PV (stV T 4 v49 (Value.bool true) h_7) fun h_8 =>
 alF (bsV T 26 1 #[(0, root_)]) h_8 fun v52 h_9 =>
 PV (nilV s_) fun v53 =>
 PV (fldV T 101 v53 6) fun v54 =>
 PV (stV T 26 v54 v52 h_9) fun h_10 =>
 R (.returned (Value.tuple #[])) h_10))))

theorem H90 {s_ root_ : Value} {R : Ending → Heap → Prop} {h : Heap} (H : F90 s_ root_ R h) : HCalls Try.prog 90 #[s_, root_] h R := by
  have e : hw (opF Try.prog T 55) (drawF Try.prog T 55) 55 [] (Try.f90.body.getD .skip) (postF T [] R) (tm0 [s_, root_]) h = F90 s_ root_ R h := by kernel_rfl
  exact hcalls (args := [s_, root_]) TOKT mixed Try.func90 (c := Try.f90.body.getD .skip) rfl Try.ntmps90 (rs := []) rfl (by simp) (by rw [e]; exact H)
theorem en90 : entersB Try.prog 90 := ⟨_, Try.func90, by kernel_rfl, by kernel_rfl⟩

/-- (*compass/blossom.search).meet -/
def F114 (s_ a_ b_ : Value) (R : Ending → Heap → Prop) (h : Heap) : Prop :=
 PV (nilV s_) fun v11 =>
 PV (fldV T 101 v11 0) fun v12 =>
 PV (fldV T 25 v12 0) fun v13 =>
 PV (ldV T 3 v13 h) fun v14 =>
 alF (msV T 74 v14 v14) h fun v15 h_1 =>
 JN (fun (h_2 : Heap) =>
 ∃ I : Nat → List Value → Heap → Prop, (∃ m, I m [b_] h_2) ∧
 ∀ m (X : Tm) h_3, I m [X 2] h_3 →
 PV (nilV s_) fun v56 =>
 PV (fldV T 101 v56 3) fun v57 =>
 PV (ldV T 26 v57 h_3) fun v58 =>
 PV (ixV T 26 v58 (X 2)) fun v60 =>
 PV (ldV T 3 v60 h_3) fun v61 =>
 PV (ixV T 74 v15 v61) fun v64 =>
 PV (ldV T 4 v64 h_3) fun v65 =>
 (ifV v65
 (R (.returned v61) h_3)
 (CALL Try.prog 57 #[s_, v61] h_3 (fun v69 h_4 =>
 PV (nilV s_) fun v72 =>
 PV (fldV T 101 v72 4) fun v73 =>
 PV (ldV T 26 v73 h_4) fun v74 =>
 PV (ixV T 26 v74 v69) fun v76 =>
 PV (ldV T 3 v76 h_4) fun v77 =>
 CALL Try.prog 59 #[s_, v77, v69] h_4 (fun v79 h_5 =>
 ∃ m', m' < m ∧ I m' [v79] h_5) (fun ch h_5 => R (.panicked ch) h_5)) (fun ch h_4 => R (.panicked ch) h_4)))) fun J =>
 ∃ I : Nat → List Value → Heap → Prop, (∃ m, I m [a_] h_1) ∧
 ∀ m (X : Tm) h_2, I m [X 1] h_2 →
 PV (nilV s_) fun v17 =>
 PV (fldV T 101 v17 3) fun v18 =>
 PV (ldV T 26 v18 h_2) fun v19 =>
 PV (ixV T 26 v19 (X 1)) fun v21 =>
 PV (ldV T 3 v21 h_2) fun v22 =>
 PV (ixV T 74 v15 v22) fun v25 =>
 PV (stV T 4 v25 (Value.bool true) h_2) fun h_3 =>
 PV (nilV s_) fun v27 =>
 PV (fldV T 101 v27 2) fun v28 =>
 PV (ldV T 26 v28 h_3) fun v29 =>
 PV (ixV T 26 v29 v22) fun v31 =>
 PV (ldV T 3 v31 h_3) fun v32 =>
 PV (binV T .lss 3 v32 (Value.int .i64 0)) fun v33 =>
 (ifV v33
 (J  h_3)
 (CALL Try.prog 57 #[s_, v22] h_3 (fun v36 h_4 =>
 PV (nilV s_) fun v38 =>
 PV (fldV T 101 v38 4) fun v39 =>
 PV (ldV T 26 v39 h_4) fun v40 =>
 PV (ixV T 26 v40 v36) fun v42 =>
 PV (ldV T 3 v42 h_4) fun v43 =>
 PV (binV T .lss 3 v43 (Value.int .i64 0)) fun v44 =>
 (ifV v44
 (J  h_4)
 (PV (nilV s_) fun v47 =>
 PV (fldV T 101 v47 4) fun v48 =>
 PV (ldV T 26 v48 h_4) fun v49 =>
 PV (ixV T 26 v49 v36) fun v51 =>
 PV (ldV T 3 v51 h_4) fun v52 =>
 CALL Try.prog 59 #[s_, v52, v36] h_4 (fun v54 h_5 =>
 ∃ m', m' < m ∧ I m' [v54] h_5) (fun ch h_5 => R (.panicked ch) h_5)))) (fun ch h_4 => R (.panicked ch) h_4)))

theorem H114 {s_ a_ b_ : Value} {R : Ending → Heap → Prop} {h : Heap} (H : F114 s_ a_ b_ R h) : HCalls Try.prog 114 #[s_, a_, b_] h R := by
  have e : hw (opF Try.prog T 80) (drawF Try.prog T 80) 80 [1, 2] (Try.f114.body.getD .skip) (postF T [.tmp 6] R) (tm0 [s_, a_, b_]) h = F114 s_ a_ b_ R h := by kernel_rfl
  exact hcalls (args := [s_, a_, b_]) TOKT mixed Try.func114 (c := Try.f114.body.getD .skip) rfl Try.ntmps114 (rs := [.tmp 6]) rfl (by simp) (by rw [e]; exact H)
theorem en114 : entersB Try.prog 114 := ⟨_, Try.func114, by kernel_rfl, by kernel_rfl⟩

/-- (*compass/blossom.search).mark -/
def F115 (s_ v_ top_ i_ in_ : Value) (R : Ending → Heap → Prop) (h : Heap) : Prop :=
 ∃ I : Nat → List Value → Heap → Prop, (∃ m, I m [v_, i_] h) ∧
 ∀ m (X : Tm) h_1, I m [X 1, X 3] h_1 →
 PV (nilV s_) fun v12 =>
 PV (fldV T 101 v12 3) fun v13 =>
 PV (ldV T 26 v13 h_1) fun v14 =>
 PV (ixV T 26 v14 (X 1)) fun v16 =>
 PV (ldV T 3 v16 h_1) fun v17 =>
 PV (binV T .neq 3 v17 top_) fun v19 =>
 (ifV v19
 (CALL Try.prog 57 #[s_, (X 1)] h_1 (fun v22 h_2 =>
 PV (nilV s_) fun v25 =>
 PV (fldV T 101 v25 3) fun v26 =>
 PV (ldV T 26 v26 h_2) fun v27 =>
 PV (ixV T 26 v27 (X 1)) fun v29 =>
 PV (ldV T 3 v29 h_2) fun v30 =>
 PV (nilV s_) fun v33 =>
 PV (fldV T 101 v33 3) fun v34 =>
 PV (ldV T 26 v34 h_2) fun v35 =>
 PV (ixV T 26 v35 v22) fun v37 =>
 PV (ldV T 3 v37 h_2) fun v38 =>
 PV (ixV T 74 in_ v30) fun v39 =>
 PV (stV T 4 v39 (Value.bool true) h_2) fun h_3 =>
 Cons h_3 → PV (ixV T 74 in_ v38) fun v40 =>
 PV (stV T 4 v40 (Value.bool true) h_3) fun h_4 =>
 Cons h_4 → PV (nilV s_) fun v42 =>
 PV (fldV T 101 v42 4) fun v43 =>
 PV (ldV T 26 v43 h_4) fun v44 =>
 PV (ixV T 26 v44 (X 1)) fun v47 =>
 PV (stV T 3 v47 (X 3) h_4) fun h_5 =>
 PV (nilV s_) fun v49 =>
 PV (fldV T 101 v49 4) fun v50 =>
 PV (ldV T 26 v50 h_5) fun v51 =>
 PV (ixV T 26 v51 v22) fun v53 =>
 PV (ldV T 3 v53 h_5) fun v54 =>
 CALL Try.prog 59 #[s_, v54, v22] h_5 (fun v58 h_6 =>
 ∃ m', m' < m ∧ I m' [v58, v54] h_6) (fun ch h_6 => R (.panicked ch) h_6)) (fun ch h_2 => R (.panicked ch) h_2))
 (R (.returned (Value.tuple #[])) h_1))

theorem H115 {s_ v_ top_ i_ in_ : Value} {R : Ending → Heap → Prop} {h : Heap} (H : F115 s_ v_ top_ i_ in_ R h) : HCalls Try.prog 115 #[s_, v_, top_, i_, in_] h R := by
  have e : hw (opF Try.prog T 59) (drawF Try.prog T 59) 59 [] (Try.f115.body.getD .skip) (postF T [] R) (tm0 [s_, v_, top_, i_, in_]) h = F115 s_ v_ top_ i_ in_ R h := by kernel_rfl
  exact hcalls (args := [s_, v_, top_, i_, in_]) TOKT mixed Try.func115 (c := Try.f115.body.getD .skip) rfl Try.ntmps115 (rs := []) rfl (by simp) (by rw [e]; exact H)
theorem en115 : entersB Try.prog 115 := ⟨_, Try.func115, by kernel_rfl, by kernel_rfl⟩

/-- (*compass/blossom.search).shrink -/
def F91 (s_ i_ : Value) (R : Ending → Heap → Prop) (h : Heap) : Prop :=
 PV (nilV s_) fun v10 =>
 PV (fldV T 101 v10 0) fun v11 =>
 PV (fldV T 25 v11 1) fun v12 =>
 PV (ldV T 23 v12 h) fun v13 =>
 PV (ixV T 23 v13 i_) fun v15 =>
 PV (fldV T 40 v15 0) fun v16 =>
 PV (ldV T 3 v16 h) fun v17 =>
 PV (nilV s_) fun v19 =>
 PV (fldV T 101 v19 0) fun v20 =>
 PV (fldV T 25 v20 1) fun v21 =>
 PV (ldV T 23 v21 h) fun v22 =>
 PV (ixV T 23 v22 i_) fun v24 =>
 PV (fldV T 40 v24 1) fun v25 =>
 PV (ldV T 3 v25 h) fun v26 =>
 CALL Try.prog 114 #[s_, v17, v26] h (fun v30 h_1 =>
 PV (nilV s_) fun v32 =>
 PV (fldV T 101 v32 0) fun v33 =>
 PV (fldV T 25 v33 0) fun v34 =>
 PV (ldV T 3 v34 h_1) fun v35 =>
 alF (msV T 74 v35 v35) h_1 fun v36 h_2 =>
 CALL Try.prog 115 #[s_, v17, v30, i_, v36] h_2 (fun v42 h_3 =>
 CALL Try.prog 115 #[s_, v26, v30, i_, v36] h_3 (fun v48 h_4 =>
 PV (lenV T 74 v36) fun v50 =>
 ∃ I : Nat → List Value → Heap → Prop, (∃ m, I m [(Value.int .i64 0)] h_4) ∧
 ∀ m (X : Tm) h_5, I m [X 51] h_5 →
 PV (binV T .lss 3 (X 51) v50) fun v52 =>
 (ifV v52
 (PV (nilV s_) fun v56 =>
 PV (fldV T 101 v56 3) fun v57 =>
 PV (ldV T 26 v57 h_5) fun v58 =>
 PV (ixV T 26 v58 (X 51)) fun v60 =>
 PV (ldV T 3 v60 h_5) fun v61 =>
 PV (ixV T 74 v36 v61) fun v62 =>
 PV (ldV T 4 v62 h_5) fun v63 =>
 (ifV v63
 (PV (nilV s_) fun v65 =>
 PV (fldV T 101 v65 3) fun v66 =>
 PV (ldV T 26 v66 h_5) fun v67 =>
 PV (ixV T 26 v67 (X 51)) fun v70 =>
 PV (stV T 3 v70 v30 h_5) fun h_6 =>
 PV (nilV s_) fun v72 =>
 PV (fldV T 101 v72 5) fun v73 =>
 PV (ldV T 74 v73 h_6) fun v74 =>
 PV (ixV T 74 v74 (X 51)) fun v76 =>
 PV (ldV T 4 v76 h_6) fun v77 =>
 PV (unV .not v77) fun v78 =>
 (ifV v78
 (PV (nilV s_) fun v80 =>
 PV (fldV T 101 v80 5) fun v81 =>
 PV (ldV T 74 v81 h_6) fun v82 =>
 PV (ixV T 74 v82 (X 51)) fun v84 =>
 PV (stV T 4 v84 (Value.bool true) h_6) fun h_7 =>
 PV (nilV s_) fun v87 =>
 PV (fldV T 101 v87 6) fun v88 =>
 PV (ldV T 26 v88 h_7) fun v89 =>
 alF (bsV T 26 1 #[(0, (X 51))]) h_7 fun v91 h_8 =>
 (26 = 26) ∧ AP T 26 v89 v91 (fun v92 h_9 =>
 PV (nilV s_) fun v93 =>
 PV (fldV T 101 v93 6) fun v94 =>
 PV (stV T 26 v94 v92 h_9) fun h_10 =>
 PV (binV T .add 3 (X 51) (Value.int .i64 1)) fun v95 =>
 ∃ m', m' < m ∧ I m' [v95] h_10) h_8)
 (PV (binV T .add 3 (X 51) (Value.int .i64 1)) fun v95 =>
 ∃ m', m' < m ∧ I m' [v95] h_6)))
 (PV (binV T .add 3 (X 51) (Value.int .i64 1)) fun v95 =>
 ∃ m', m' < m ∧ I m' [v95] h_5)))
 (R (.returned (Value.tuple #[])) h_5))) (fun ch h_4 => R (.panicked ch) h_4)) (fun ch h_3 => R (.panicked ch) h_3)) (fun ch h_1 => R (.panicked ch) h_1)

theorem H91 {s_ i_ : Value} {R : Ending → Heap → Prop} {h : Heap} (H : F91 s_ i_ R h) : HCalls Try.prog 91 #[s_, i_] h R := by
  have e : hw (opF Try.prog T 96) (drawF Try.prog T 96) 96 [] (Try.f91.body.getD .skip) (postF T [] R) (tm0 [s_, i_]) h = F91 s_ i_ R h := by kernel_rfl
  exact hcalls (args := [s_, i_]) TOKT mixed Try.func91 (c := Try.f91.body.getD .skip) rfl Try.ntmps91 (rs := []) rfl (by simp) (by rw [e]; exact H)
theorem en91 : entersB Try.prog 91 := ⟨_, Try.func91, by kernel_rfl, by kernel_rfl⟩

/-- (*compass/blossom.search).grow -/
def F56 (s_ root_ : Value) (R : Ending → Heap → Prop) (h : Heap) : Prop :=
 CALL Try.prog 90 #[s_, root_] h (fun v12 h_1 =>
 ∃ I : Nat → List Value → Heap → Prop, (∃ m, I m [] h_1) ∧
 ∀ m (X : Tm) h_2, I m [] h_2 →
 PV (nilV s_) fun v14 =>
 PV (fldV T 101 v14 6) fun v15 =>
 PV (ldV T 26 v15 h_2) fun v16 =>
 PV (lenV T 26 v16) fun v17 =>
 PV (binV T .gtr 3 v17 (Value.int .i64 0)) fun v18 =>
 (ifV v18
 (PV (nilV s_) fun v20 =>
 PV (fldV T 101 v20 6) fun v21 =>
 PV (ldV T 26 v21 h_2) fun v22 =>
 PV (ixV T 26 v22 (Value.int .i64 0)) fun v23 =>
 PV (ldV T 3 v23 h_2) fun v24 =>
 PV (nilV s_) fun v27 =>
 PV (fldV T 101 v27 6) fun v28 =>
 PV (ldV T 26 v28 h_2) fun v29 =>
 PV (slV T 26 v29 (some (Value.int .i64 1)) none none) fun v30 =>
 PV (nilV s_) fun v31 =>
 PV (fldV T 101 v31 6) fun v32 =>
 PV (stV T 26 v32 v30 h_2) fun h_3 =>
 PV (nilV s_) fun v34 =>
 PV (fldV T 101 v34 1) fun v35 =>
 PV (ldV T 77 v35 h_3) fun v36 =>
 PV (ixV T 77 v36 v24) fun v38 =>
 PV (ldV T 26 v38 h_3) fun v39 =>
 PV (lenV T 26 v39) fun v40 =>
 ∃ I_1 : Nat → List Value → Heap → Prop, (∃ m_1, I_1 m_1 [(Value.int .i64 0)] h_3) ∧
 ∀ m_1 (X_1 : Tm) h_4, I_1 m_1 [X_1 41] h_4 →
 PV (binV T .lss 3 (X_1 41) v40) fun v42 =>
 (ifV v42
 (PV (ixV T 26 v39 (X_1 41)) fun v43 =>
 PV (ldV T 3 v43 h_4) fun v44 =>
 CALL Try.prog 59 #[s_, v44, v24] h_4 (fun v48 h_5 =>
 JN (fun (a49 : Value) (h_6 : Heap) =>
 (ifV a49
 (PV (binV T .add 3 (X_1 41) (Value.int .i64 1)) fun v131 =>
 ∃ m'_1, m'_1 < m_1 ∧ I_1 m'_1 [v131] h_6)
 (PV (nilV s_) fun v78 =>
 PV (fldV T 101 v78 5) fun v79 =>
 PV (ldV T 74 v79 h_6) fun v80 =>
 PV (ixV T 74 v80 v48) fun v82 =>
 PV (ldV T 4 v82 h_6) fun v83 =>
 (ifV v83
 (CALL Try.prog 91 #[s_, v44] h_6 (fun v86 h_7 =>
 PV (binV T .add 3 (X_1 41) (Value.int .i64 1)) fun v131 =>
 ∃ m'_1, m'_1 < m_1 ∧ I_1 m'_1 [v131] h_7) (fun ch h_7 => R (.panicked ch) h_7))
 (PV (nilV s_) fun v89 =>
 PV (fldV T 101 v89 4) fun v90 =>
 PV (ldV T 26 v90 h_6) fun v91 =>
 PV (ixV T 26 v91 v48) fun v93 =>
 PV (ldV T 3 v93 h_6) fun v94 =>
 PV (binV T .lss 3 v94 (Value.int .i64 0)) fun v95 =>
 (ifV v95
 (PV (nilV s_) fun v97 =>
 PV (fldV T 101 v97 4) fun v98 =>
 PV (ldV T 26 v98 h_6) fun v99 =>
 PV (ixV T 26 v99 v48) fun v102 =>
 PV (stV T 3 v102 v44 h_6) fun h_7 =>
 PV (nilV s_) fun v104 =>
 PV (fldV T 101 v104 2) fun v105 =>
 PV (ldV T 26 v105 h_7) fun v106 =>
 PV (ixV T 26 v106 v48) fun v108 =>
 PV (ldV T 3 v108 h_7) fun v109 =>
 PV (binV T .lss 3 v109 (Value.int .i64 0)) fun v110 =>
 (ifV v110
 (R (.returned v48) h_7)
 (CALL Try.prog 57 #[s_, v48] h_7 (fun v114 h_8 =>
 PV (nilV s_) fun v116 =>
 PV (fldV T 101 v116 5) fun v117 =>
 PV (ldV T 74 v117 h_8) fun v118 =>
 PV (ixV T 74 v118 v114) fun v120 =>
 PV (stV T 4 v120 (Value.bool true) h_8) fun h_9 =>
 PV (nilV s_) fun v123 =>
 PV (fldV T 101 v123 6) fun v124 =>
 PV (ldV T 26 v124 h_9) fun v125 =>
 alF (bsV T 26 1 #[(0, v114)]) h_9 fun v127 h_10 =>
 (26 = 26) ∧ AP T 26 v125 v127 (fun v128 h_11 =>
 PV (nilV s_) fun v129 =>
 PV (fldV T 101 v129 6) fun v130 =>
 PV (stV T 26 v130 v128 h_11) fun h_12 =>
 PV (binV T .add 3 (X_1 41) (Value.int .i64 1)) fun v131 =>
 ∃ m'_1, m'_1 < m_1 ∧ I_1 m'_1 [v131] h_12) h_10) (fun ch h_8 => R (.panicked ch) h_8))))
 (PV (binV T .add 3 (X_1 41) (Value.int .i64 1)) fun v131 =>
 ∃ m'_1, m'_1 < m_1 ∧ I_1 m'_1 [v131] h_6))))))) fun J =>
 PV (nilV s_) fun v51 =>
 PV (fldV T 101 v51 3) fun v52 =>
 PV (ldV T 26 v52 h_5) fun v53 =>
 PV (ixV T 26 v53 v48) fun v55 =>
 PV (ldV T 3 v55 h_5) fun v56 =>
 PV (nilV s_) fun v58 =>
 PV (fldV T 101 v58 3) fun v59 =>
 PV (ldV T 26 v59 h_5) fun v60 =>
 PV (ixV T 26 v60 v24) fun v62 =>
 PV (ldV T 3 v62 h_5) fun v63 =>
 PV (binV T .eql 3 v56 v63) fun v64 =>
 (ifV v64
 (J (Value.bool true) h_5)
 (PV (nilV s_) fun v67 =>
 PV (fldV T 101 v67 2) fun v68 =>
 PV (ldV T 26 v68 h_5) fun v69 =>
 PV (ixV T 26 v69 v24) fun v71 =>
 PV (ldV T 3 v71 h_5) fun v72 =>
 PV (binV T .eql 3 v72 v44) fun v74 =>
 J v74 h_5))) (fun ch h_5 => R (.panicked ch) h_5))
 (∃ m', m' < m ∧ I m' [] h_4)))
 (R (.returned (Value.int .i64 (-1))) h_2))) (fun ch h_1 => R (.panicked ch) h_1)

theorem H56 {s_ root_ : Value} {R : Ending → Heap → Prop} {h : Heap} (H : F56 s_ root_ R h) : HCalls Try.prog 56 #[s_, root_] h R := by
  have e : hw (opF Try.prog T 132) (drawF Try.prog T 132) 132 [] (Try.f56.body.getD .skip) (postF T [.tmp 4] R) (tm0 [s_, root_]) h = F56 s_ root_ R h := by kernel_rfl
  exact hcalls (args := [s_, root_]) TOKT mixed Try.func56 (c := Try.f56.body.getD .skip) rfl Try.ntmps56 (rs := [.tmp 4]) rfl (by simp) (by rw [e]; exact H)
theorem en56 : entersB Try.prog 56 := ⟨_, Try.func56, by kernel_rfl, by kernel_rfl⟩

/-- (*compass/blossom.search).turn -/
def F55 (s_ w_ : Value) (R : Ending → Heap → Prop) (h : Heap) : Prop :=
 ∃ I : Nat → List Value → Heap → Prop, (∃ m, I m [w_, undef] h) ∧
 ∀ m (X : Tm) h_1, I m [X 1, X 6] h_1 →
 PV (binV T .geq 3 (X 1) (Value.int .i64 0)) fun v8 =>
 (ifV v8
 (PV (nilV s_) fun v10 =>
 PV (fldV T 101 v10 4) fun v11 =>
 PV (ldV T 26 v11 h_1) fun v12 =>
 PV (ixV T 26 v12 (X 1)) fun v14 =>
 PV (ldV T 3 v14 h_1) fun v15 =>
 CALL Try.prog 59 #[s_, v15, (X 1)] h_1 (fun v19 h_2 =>
 JN (fun (a6 : Value) (h_3 : Heap) =>
 PV (nilV s_) fun v32 =>
 PV (fldV T 101 v32 2) fun v33 =>
 PV (ldV T 26 v33 h_3) fun v34 =>
 PV (nilV s_) fun v37 =>
 PV (fldV T 101 v37 2) fun v38 =>
 PV (ldV T 26 v38 h_3) fun v39 =>
 PV (ixV T 26 v34 (X 1)) fun v43 =>
 PV (stV T 3 v43 v15 h_3) fun h_4 =>
 Cons h_4 → PV (ixV T 26 v39 v19) fun v44 =>
 PV (stV T 3 v44 v15 h_4) fun h_5 =>
 Cons h_5 → ∃ m', m' < m ∧ I m' [a6, a6] h_5) fun J =>
 PV (nilV s_) fun v21 =>
 PV (fldV T 101 v21 2) fun v22 =>
 PV (ldV T 26 v22 h_2) fun v23 =>
 PV (ixV T 26 v23 v19) fun v25 =>
 PV (ldV T 3 v25 h_2) fun v26 =>
 PV (binV T .geq 3 v26 (Value.int .i64 0)) fun v27 =>
 (ifV v27
 (CALL Try.prog 57 #[s_, v19] h_2 (fun v30 h_3 =>
 J v30 h_3) (fun ch h_3 => R (.panicked ch) h_3))
 (J (Value.int .i64 (-1)) h_2))) (fun ch h_2 => R (.panicked ch) h_2))
 (R (.returned (Value.tuple #[])) h_1))

theorem H55 {s_ w_ : Value} {R : Ending → Heap → Prop} {h : Heap} (H : F55 s_ w_ R h) : HCalls Try.prog 55 #[s_, w_] h R := by
  have e : hw (opF Try.prog T 46) (drawF Try.prog T 46) 46 [6] (Try.f55.body.getD .skip) (postF T [] R) (tm0 [s_, w_]) h = F55 s_ w_ R h := by kernel_rfl
  exact hcalls (args := [s_, w_]) TOKT mixed Try.func55 (c := Try.f55.body.getD .skip) rfl Try.ntmps55 (rs := []) rfl (by simp) (by rw [e]; exact H)
theorem en55 : entersB Try.prog 55 := ⟨_, Try.func55, by kernel_rfl, by kernel_rfl⟩

/-- compass/blossom.Solve$1 -/
def F58 (i_ p1_ p2_ p3_ : Value) (R : Ending → Heap → Prop) (h : Heap) : Prop :=
 PV (ldV T 74 p1_ h) fun v6 =>
 PV (ldV T 98 p2_ h) fun v7 =>
 PV (ldV T 3 p3_ h) fun v9 =>
 CALL Try.prog 59 #[v7, i_, v9] h (fun v10 h_1 =>
 Le h h_1 ∧ (Cons h_1 → PV (ixV T 74 v6 v10) fun v11 =>
 PV (ldV T 4 v11 h) fun v12 =>
 R (.returned v12) h_1)) (fun ch h_1 => False)

theorem H58 {i_ p1_ p2_ p3_ : Value} {R : Ending → Heap → Prop} {h : Heap} (H : F58 i_ p1_ p2_ p3_ R h) : HCalls Try.prog 58 #[i_, p1_, p2_, p3_] h R := by
  have e : hw (opF Try.prog T 13) (drawF Try.prog T 13) 13 [] (Try.f58.body.getD .skip) (postF T [.tmp 5] R) (tm0 [i_, p1_, p2_, p3_]) h = F58 i_ p1_ p2_ p3_ R h := by kernel_rfl
  exact hcalls (args := [i_, p1_, p2_, p3_]) TOKT mixed Try.func58 (c := Try.f58.body.getD .skip) rfl Try.ntmps58 (rs := [.tmp 5]) rfl (by simp) (by rw [e]; exact H)
theorem en58 : entersB Try.prog 58 := ⟨_, Try.func58, by kernel_rfl, by kernel_rfl⟩

/-- slices.ContainsFunc[[]int,int] -/
def F60 (s_ f_ : Value) (R : Ending → Heap → Prop) (h : Heap) : Prop :=
 CALL Try.prog 92 #[s_, f_] h (fun v7 h_1 =>
 PV (binV T .geq 3 v7 (Value.int .i64 0)) fun v8 =>
 R (.returned v8) h_1) (fun ch h_1 => R (.panicked ch) h_1)

theorem H60 {s_ f_ : Value} {R : Ending → Heap → Prop} {h : Heap} (H : F60 s_ f_ R h) : HCalls Try.prog 60 #[s_, f_] h R := by
  have e : hw (opF Try.prog T 9) (drawF Try.prog T 9) 9 [] (Try.f60.body.getD .skip) (postF T [.tmp 4] R) (tm0 [s_, f_]) h = F60 s_ f_ R h := by kernel_rfl
  exact hcalls (args := [s_, f_]) TOKT mixed Try.func60 (c := Try.f60.body.getD .skip) rfl Try.ntmps60 (rs := [.tmp 4]) rfl (by simp) (by rw [e]; exact H)
theorem en60 : entersB Try.prog 60 := ⟨_, Try.func60, by kernel_rfl, by kernel_rfl⟩

/-- slices.IndexFunc[[]int,int] -/
def F92 (s_ f_ : Value) (R : Ending → Heap → Prop) (h : Heap) : Prop :=
 PV (lenV T 26 s_) fun v7 =>
 ∃ I : Nat → List Value → Heap → Prop, (∃ m, I m [(Value.int .i64 0)] h) ∧
 ∀ m (X : Tm) h_1, I m [X 8] h_1 →
 PV (binV T .lss 3 (X 8) v7) fun v9 =>
 (ifV v9
 (PV (ixV T 26 s_ (X 8)) fun v14 =>
 PV (ldV T 3 v14 h_1) fun v15 =>
 CL Try.prog f_ #[v15] (fun v16 h_2 =>
 (ifV v16
 (R (.returned (X 8)) h_2)
 (PV (binV T .add 3 (X 8) (Value.int .i64 1)) fun v18 =>
 ∃ m', m' < m ∧ I m' [v18] h_2))) (fun ch h_2 => R (.panicked ch) h_2) h_1)
 (R (.returned (Value.int .i64 (-1))) h_1))

theorem H92 {s_ f_ : Value} {R : Ending → Heap → Prop} {h : Heap} (H : F92 s_ f_ R h) : HCalls Try.prog 92 #[s_, f_] h R := by
  have e : hw (opF Try.prog T 19) (drawF Try.prog T 19) 19 [] (Try.f92.body.getD .skip) (postF T [.tmp 4] R) (tm0 [s_, f_]) h = F92 s_ f_ R h := by kernel_rfl
  exact hcalls (args := [s_, f_]) TOKT mixed Try.func92 (c := Try.f92.body.getD .skip) rfl Try.ntmps92 (rs := [.tmp 4]) rfl (by simp) (by rw [e]; exact H)
theorem en92 : entersB Try.prog 92 := ⟨_, Try.func92, by kernel_rfl, by kernel_rfl⟩

/-- compass/blossom.Solve -/
def F23 (g_ : Value) (R : Ending → Heap → Prop) (h : Heap) : Prop :=
 ∀ r, Heap.fresh h r →
 PV (ldV T 25 (Value.pointer (some ⟨r, 0, none⟩)) (Heap.new h r (Value.cells g_) 25)) fun v14 =>
 CALL Try.prog 44 #[v14] (Heap.new h r (Value.cells g_) 25) (fun v15 h_1 =>
 ∀ r_1, Heap.fresh h_1 r_1 →
 PV (stV T 31 (Value.pointer (some ⟨r_1, 0, none⟩)) v15 (Heap.new h_1 r_1 #[(Value.int .i64 0), (Value.int .i64 0)] 31)) fun h_2 =>
 PV (fldV T 31 (Value.pointer (some ⟨r_1, 0, none⟩)) 0) fun v16 =>
 PV (ldV T 27 v16 h_2) fun v17 =>
 PV (binV T .neq 27 v17 (Value.int .i64 0)) fun v18 =>
 (ifV v18
 (PV (fldV T 31 (Value.pointer (some ⟨r_1, 0, none⟩)) 0) fun v19 =>
 PV (ldV T 27 v19 h_2) fun v20 =>
 R (.returned (Value.tuple #[(Value.slice none 0 0), (Value.slice none 0 0), v20])) h_2)
 (PV (ldV T 25 (Value.pointer (some ⟨r, 0, none⟩)) h_2) fun v21 =>
 CALL Try.prog 54 #[v21] h_2 (fun v22 h_3 =>
 ∀ r_2, Heap.fresh h_3 r_2 →
 PV (stV T 98 (Value.pointer (some ⟨r_2, 0, none⟩)) v22 (Heap.new h_3 r_2 #[(Value.pointer none)] 98)) fun h_4 =>
 PV (fldV T 25 (Value.pointer (some ⟨r, 0, none⟩)) 0) fun v23 =>
 PV (ldV T 3 v23 h_4) fun v24 =>
 ∃ I : Nat → List Value → Heap → Prop, (∃ m, I m [(Value.int .i64 0)] h_4) ∧
 ∀ m (X : Tm) h_5, I m [X 25] h_5 →
 PV (binV T .lss 3 (X 25) v24) fun v26 =>
 (ifV v26
 (PV (ldV T 98 (Value.pointer (some ⟨r_2, 0, none⟩)) h_5) fun v28 =>
 PV (nilV v28) fun v29 =>
 PV (fldV T 101 v29 2) fun v30 =>
 PV (ldV T 26 v30 h_5) fun v31 =>
 PV (ixV T 26 v31 (X 25)) fun v33 =>
 PV (ldV T 3 v33 h_5) fun v34 =>
 PV (binV T .lss 3 v34 (Value.int .i64 0)) fun v35 =>
 (ifV v35
 (PV (ldV T 98 (Value.pointer (some ⟨r_2, 0, none⟩)) h_5) fun v36 =>
 PV (ldV T 98 (Value.pointer (some ⟨r_2, 0, none⟩)) h_5) fun v37 =>
 CALL Try.prog 56 #[v37, (X 25)] h_5 (fun v39 h_6 =>
 Le h_5 h_6 ∧ (Cons h_6 → CALL Try.prog 55 #[v36, v39] h_6 (fun v40 h_7 =>
 Cons h_7 → PV (binV T .add 3 (X 25) (Value.int .i64 1)) fun v41 =>
 ∃ m', m' < m ∧ I m' [v41] h_7) (fun ch h_7 => R (.panicked ch) h_7))) (fun ch h_6 => False))
 (PV (binV T .add 3 (X 25) (Value.int .i64 1)) fun v41 =>
 ∃ m', m' < m ∧ I m' [v41] h_5)))
 (PV (fldV T 25 (Value.pointer (some ⟨r, 0, none⟩)) 0) fun v42 =>
 PV (ldV T 3 v42 h_5) fun v43 =>
 alF (msV T 74 v43 v43) h_5 fun v44 h_6 =>
 ∀ r_3, Heap.fresh h_6 r_3 →
 PV (stV T 74 (Value.pointer (some ⟨r_3, 0, none⟩)) v44 (Heap.new h_6 r_3 #[(Value.slice none 0 0)] 74)) fun h_7 =>
 PV (fldV T 25 (Value.pointer (some ⟨r, 0, none⟩)) 0) fun v45 =>
 PV (ldV T 3 v45 h_7) fun v46 =>
 ∃ I_1 : Nat → List Value → Heap → Prop, (∃ m_1, I_1 m_1 [(Value.int .i64 0), (Value.slice none 0 0)] h_7) ∧
 ∀ m_1 (X_1 : Tm) h_8, I_1 m_1 [X_1 47, X_1 2] h_8 →
 PV (binV T .lss 3 (X_1 47) v46) fun v48 =>
 (ifV v48
 (JN (fun (h_9 : Heap) =>
 JN (fun (a96 : Value) (h_10 : Heap) =>
 (ifV a96
 (PV (ldV T 98 (Value.pointer (some ⟨r_2, 0, none⟩)) h_10) fun v98 =>
 PV (nilV v98) fun v99 =>
 PV (fldV T 101 v99 2) fun v100 =>
 PV (ldV T 26 v100 h_10) fun v101 =>
 PV (ixV T 26 v101 (X_1 47)) fun v103 =>
 PV (ldV T 3 v103 h_10) fun v104 =>
 alF (bsV T 26 1 #[(0, v104)]) h_10 fun v105 h_11 =>
 (26 = 26) ∧ AP T 26 (X_1 2) v105 (fun v106 h_12 =>
 PV (binV T .add 3 (X_1 47) (Value.int .i64 1)) fun v107 =>
 ∃ m'_1, m'_1 < m_1 ∧ I_1 m'_1 [v107, v106] h_12) h_11)
 (PV (binV T .add 3 (X_1 47) (Value.int .i64 1)) fun v107 =>
 ∃ m'_1, m'_1 < m_1 ∧ I_1 m'_1 [v107, (X_1 2)] h_10))) fun J_1 =>
 PV (ldV T 98 (Value.pointer (some ⟨r_2, 0, none⟩)) h_9) fun v82 =>
 PV (nilV v82) fun v83 =>
 PV (fldV T 101 v83 2) fun v84 =>
 PV (ldV T 26 v84 h_9) fun v85 =>
 PV (ixV T 26 v85 (X_1 47)) fun v87 =>
 PV (ldV T 3 v87 h_9) fun v88 =>
 PV (binV T .geq 3 v88 (Value.int .i64 0)) fun v89 =>
 (ifV v89
 (PV (ldV T 98 (Value.pointer (some ⟨r_2, 0, none⟩)) h_9) fun v91 =>
 CALL Try.prog 57 #[v91, (X_1 47)] h_9 (fun v93 h_10 =>
 PV (binV T .gtr 3 v93 (X_1 47)) fun v95 =>
 J_1 v95 h_10) (fun ch h_10 => R (.panicked ch) h_10))
 (J_1 (Value.bool false) h_9))) fun J =>
 PV (ldV T 98 (Value.pointer (some ⟨r_2, 0, none⟩)) h_8) fun v50 =>
 PV (nilV v50) fun v51 =>
 PV (fldV T 101 v51 2) fun v52 =>
 PV (ldV T 26 v52 h_8) fun v53 =>
 PV (ixV T 26 v53 (X_1 47)) fun v55 =>
 PV (ldV T 3 v55 h_8) fun v56 =>
 PV (binV T .lss 3 v56 (Value.int .i64 0)) fun v57 =>
 (ifV v57
 (PV (ldV T 98 (Value.pointer (some ⟨r_2, 0, none⟩)) h_8) fun v58 =>
 CALL Try.prog 56 #[v58, (X_1 47)] h_8 (fun v60 h_9 =>
 PV (ldV T 98 (Value.pointer (some ⟨r_2, 0, none⟩)) h_9) fun v61 =>
 PV (nilV v61) fun v62 =>
 PV (fldV T 101 v62 5) fun v63 =>
 PV (ldV T 74 v63 h_9) fun v64 =>
 PV (lenV T 74 v64) fun v65 =>
 ∃ I_2 : Nat → List Value → Heap → Prop, (∃ m_2, I_2 m_2 [(Value.int .i64 0)] h_9) ∧
 ∀ m_2 (X_2 : Tm) h_10, I_2 m_2 [X_2 66] h_10 →
 PV (binV T .lss 3 (X_2 66) v65) fun v67 =>
 (ifV v67
 (PV (ixV T 74 v64 (X_2 66)) fun v69 =>
 PV (ldV T 4 v69 h_10) fun v70 =>
 PV (ldV T 74 (Value.pointer (some ⟨r_3, 0, none⟩)) h_10) fun v71 =>
 PV (ldV T 74 (Value.pointer (some ⟨r_3, 0, none⟩)) h_10) fun v73 =>
 PV (ixV T 74 v73 (X_2 66)) fun v75 =>
 PV (ldV T 4 v75 h_10) fun v76 =>
 (ifV v76
 (PV (ixV T 74 v71 (X_2 66)) fun v80 =>
 PV (stV T 4 v80 (Value.bool true) h_10) fun h_11 =>
 Cons h_11 → PV (binV T .add 3 (X_2 66) (Value.int .i64 1)) fun v81 =>
 ∃ m'_2, m'_2 < m_2 ∧ I_2 m'_2 [v81] h_11)
 (PV (ixV T 74 v71 (X_2 66)) fun v80 =>
 PV (stV T 4 v80 v70 h_10) fun h_11 =>
 Cons h_11 → PV (binV T .add 3 (X_2 66) (Value.int .i64 1)) fun v81 =>
 ∃ m'_2, m'_2 < m_2 ∧ I_2 m'_2 [v81] h_11)))
 (J  h_10))) (fun ch h_9 => R (.panicked ch) h_9))
 (J  h_8)))
 (CALL Try.prog 42 #[(X_1 2)] h_8 (fun v109 h_9 =>
 PV (fldV T 25 (Value.pointer (some ⟨r, 0, none⟩)) 0) fun v110 =>
 PV (ldV T 3 v110 h_9) fun v111 =>
 ∃ I_2 : Nat → List Value → Heap → Prop, (∃ m_2, I_2 m_2 [(Value.int .i64 0), (Value.slice none 0 0)] h_9) ∧
 ∀ m_2 (X_2 : Tm) h_10, I_2 m_2 [X_2 112, X_2 3] h_10 →
 PV (binV T .lss 3 (X_2 112) v111) fun v113 =>
 (ifV v113
 (∀ r_4, Heap.fresh h_10 r_4 →
 PV (stV T 3 (Value.pointer (some ⟨r_4, 0, none⟩)) (X_2 112) (Heap.new h_10 r_4 #[(Value.int .i64 0)] 3)) fun h_11 =>
 JN (fun (a131 : Value) (h_12 : Heap) =>
 (ifV a131
 (PV (ldV T 3 (Value.pointer (some ⟨r_4, 0, none⟩)) h_12) fun v133 =>
 alF (bsV T 26 1 #[(0, v133)]) h_12 fun v134 h_13 =>
 (26 = 26) ∧ AP T 26 (X_2 3) v134 (fun v135 h_14 =>
 PV (binV T .add 3 (X_2 112) (Value.int .i64 1)) fun v136 =>
 ∃ m'_2, m'_2 < m_2 ∧ I_2 m'_2 [v136, v135] h_14) h_13)
 (PV (binV T .add 3 (X_2 112) (Value.int .i64 1)) fun v136 =>
 ∃ m'_2, m'_2 < m_2 ∧ I_2 m'_2 [v136, (X_2 3)] h_12))) fun J =>
 PV (ldV T 74 (Value.pointer (some ⟨r_3, 0, none⟩)) h_11) fun v116 =>
 PV (ldV T 3 (Value.pointer (some ⟨r_4, 0, none⟩)) h_11) fun v117 =>
 PV (ixV T 74 v116 v117) fun v118 =>
 PV (ldV T 4 v118 h_11) fun v119 =>
 PV (unV .not v119) fun v120 =>
 (ifV v120
 (PV (ldV T 98 (Value.pointer (some ⟨r_2, 0, none⟩)) h_11) fun v122 =>
 PV (nilV v122) fun v123 =>
 PV (fldV T 101 v123 1) fun v124 =>
 PV (ldV T 77 v124 h_11) fun v125 =>
 PV (ldV T 3 (Value.pointer (some ⟨r_4, 0, none⟩)) h_11) fun v126 =>
 PV (ixV T 77 v125 v126) fun v127 =>
 PV (ldV T 26 v127 h_11) fun v128 =>
 CALL Try.prog 60 #[v128, (Value.func (.func 58) #[] #[(Value.pointer (some ⟨r_3, 0, none⟩)), (Value.pointer (some ⟨r_2, 0, none⟩)), (Value.pointer (some ⟨r_4, 0, none⟩))])] h_11 (fun v130 h_12 =>
 Cons h_12 → J v130 h_12) (fun ch h_12 => R (.panicked ch) h_12))
 (J (Value.bool false) h_11)))
 (R (.returned (Value.tuple #[(X_1 2), (X_2 3), (Value.int .i64 0)])) h_10))) (fun ch h_9 => R (.panicked ch) h_9)))))) (fun ch h_3 => R (.panicked ch) h_3)))) (fun ch h_1 => R (.panicked ch) h_1)

theorem H23 {g_ : Value} {R : Ending → Heap → Prop} {h : Heap} (H : F23 g_ R h) : HCalls Try.prog 23 #[g_] h R := by
  have e : hw (opF Try.prog T 139) (drawF Try.prog T 139) 139 [2, 3, 4] (Try.f23.body.getD .skip) (postF T [.tmp 2, .tmp 3, .tmp 4] R) (tm0 [g_]) h = F23 g_ R h := by kernel_rfl
  exact hcalls (args := [g_]) TOKT mixed Try.func23 (c := Try.f23.body.getD .skip) rfl Try.ntmps23 (rs := [.tmp 2, .tmp 3, .tmp 4]) rfl (by simp) (by rw [e]; exact H)
theorem en23 : entersB Try.prog 23 := ⟨_, Try.func23, by kernel_rfl, by kernel_rfl⟩

end Go.Proofs.Ythchjolcjicpgaa
