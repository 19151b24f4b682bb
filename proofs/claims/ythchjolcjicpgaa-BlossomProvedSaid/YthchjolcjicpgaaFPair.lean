/- MADE BY gen.py: what is asked so that a function's call does what is said, in the order of its text; each held against the loaded code by the kernel. -/
import Derived.Test.YthchjolcjicpgaaTab
namespace Go.Proofs.Ythchjolcjicpgaa
open Go.HW

/-- (*compass/bimatch.pairs).other -/
def F86 (p_ i_ v_ : Value) (R : Ending → Heap → Prop) (h : Heap) : Prop :=
 PV (nilV p_) fun v8 =>
 PV (fldV T 79 v8 0) fun v9 =>
 PV (fldV T 25 v9 1) fun v10 =>
 PV (ldV T 23 v10 h) fun v11 =>
 PV (ixV T 23 v11 i_) fun v13 =>
 PV (fldV T 40 v13 0) fun v14 =>
 PV (ldV T 3 v14 h) fun v15 =>
 PV (nilV p_) fun v17 =>
 PV (fldV T 79 v17 0) fun v18 =>
 PV (fldV T 25 v18 1) fun v19 =>
 PV (ldV T 23 v19 h) fun v20 =>
 PV (ixV T 23 v20 i_) fun v22 =>
 PV (fldV T 40 v22 1) fun v23 =>
 PV (ldV T 3 v23 h) fun v24 =>
 PV (binV T .add 3 v15 v24) fun v25 =>
 PV (binV T .sub 3 v25 v_) fun v27 =>
 R (.returned v27) h

theorem H86 {p_ i_ v_ : Value} {R : Ending → Heap → Prop} {h : Heap} (H : F86 p_ i_ v_ R h) : HCalls Try.prog 86 #[p_, i_, v_] h R := by
  have e : hw (opF Try.prog T 28) (drawF Try.prog T 28) 28 [] (Try.f86.body.getD .skip) (postF T [.tmp 6] R) (tm0 [p_, i_, v_]) h = F86 p_ i_ v_ R h := by kernel_rfl
  exact hcalls (args := [p_, i_, v_]) TOKT mixed Try.func86 (c := Try.f86.body.getD .skip) rfl Try.ntmps86 (rs := [.tmp 6]) rfl (by simp) (by rw [e]; exact H)
theorem en86 : entersB Try.prog 86 := ⟨_, Try.func86, by kernel_rfl, by kernel_rfl⟩

/-- (*compass/bimatch.pairs).take -/
def F155 (p_ i_ : Value) (R : Ending → Heap → Prop) (h : Heap) : Prop :=
 PV (nilV p_) fun v5 =>
 PV (fldV T 79 v5 3) fun v6 =>
 PV (ldV T 26 v6 h) fun v7 =>
 PV (nilV p_) fun v9 =>
 PV (fldV T 79 v9 0) fun v10 =>
 PV (fldV T 25 v10 1) fun v11 =>
 PV (ldV T 23 v11 h) fun v12 =>
 PV (ixV T 23 v12 i_) fun v14 =>
 PV (fldV T 40 v14 0) fun v15 =>
 PV (ldV T 3 v15 h) fun v16 =>
 PV (nilV p_) fun v18 =>
 PV (fldV T 79 v18 3) fun v19 =>
 PV (ldV T 26 v19 h) fun v20 =>
 PV (nilV p_) fun v22 =>
 PV (fldV T 79 v22 0) fun v23 =>
 PV (fldV T 25 v23 1) fun v24 =>
 PV (ldV T 23 v24 h) fun v25 =>
 PV (ixV T 23 v25 i_) fun v27 =>
 PV (fldV T 40 v27 1) fun v28 =>
 PV (ldV T 3 v28 h) fun v29 =>
 PV (ixV T 26 v7 v16) fun v32 =>
 PV (stV T 3 v32 i_ h) fun h_1 =>
 Cons h_1 → PV (ixV T 26 v20 v29) fun v33 =>
 PV (stV T 3 v33 i_ h_1) fun h_2 =>
 Cons h_2 → R (.returned (Value.tuple #[])) h_2

theorem H155 {p_ i_ : Value} {R : Ending → Heap → Prop} {h : Heap} (H : F155 p_ i_ R h) : HCalls Try.prog 155 #[p_, i_] h R := by
  have e : hw (opF Try.prog T 34) (drawF Try.prog T 34) 34 [] (Try.f155.body.getD .skip) (postF T [] R) (tm0 [p_, i_]) h = F155 p_ i_ R h := by kernel_rfl
  exact hcalls (args := [p_, i_]) TOKT mixed Try.func155 (c := Try.f155.body.getD .skip) rfl Try.ntmps155 (rs := []) rfl (by simp) (by rw [e]; exact H)
theorem en155 : entersB Try.prog 155 := ⟨_, Try.func155, by kernel_rfl, by kernel_rfl⟩

/-- (*compass/bimatch.simple).try -/
def F157 (s_ v_ : Value) (R : Ending → Heap → Prop) (h : Heap) : Prop :=
 PV (nilV s_) fun v10 =>
 PV (fldV T 84 v10 0) fun v11 =>
 PV (ldV T 76 v11 h) fun v12 =>
 PV (nilV v12) fun v13 =>
 PV (fldV T 79 v13 2) fun v14 =>
 PV (ldV T 77 v14 h) fun v15 =>
 PV (ixV T 77 v15 v_) fun v17 =>
 PV (ldV T 26 v17 h) fun v18 =>
 PV (lenV T 26 v18) fun v19 =>
 ∃ I : Nat → List Value → Heap → Prop, (∃ m, I m [(Value.int .i64 0)] h) ∧
 ∀ m (X : Tm) h_1, I m [X 20] h_1 →
 PV (binV T .lss 3 (X 20) v19) fun v21 =>
 (ifV v21
 (PV (ixV T 26 v18 (X 20)) fun v22 =>
 PV (ldV T 3 v22 h_1) fun v23 =>
 PV (nilV s_) fun v25 =>
 PV (fldV T 84 v25 0) fun v26 =>
 PV (ldV T 76 v26 h_1) fun v27 =>
 CALL Try.prog 86 #[v27, v23, v_] h_1 (fun v30 h_2 =>
 PV (nilV s_) fun v32 =>
 PV (fldV T 84 v32 1) fun v33 =>
 PV (ldV T 74 v33 h_2) fun v34 =>
 PV (ixV T 74 v34 v30) fun v36 =>
 PV (ldV T 4 v36 h_2) fun v37 =>
 (ifV v37
 (PV (binV T .add 3 (X 20) (Value.int .i64 1)) fun v73 =>
 ∃ m', m' < m ∧ I m' [v73] h_2)
 (PV (nilV s_) fun v39 =>
 PV (fldV T 84 v39 1) fun v40 =>
 PV (ldV T 74 v40 h_2) fun v41 =>
 PV (ixV T 74 v41 v30) fun v43 =>
 PV (stV T 4 v43 (Value.bool true) h_2) fun h_3 =>
 PV (nilV s_) fun v45 =>
 PV (fldV T 84 v45 0) fun v46 =>
 PV (ldV T 76 v46 h_3) fun v47 =>
 PV (nilV v47) fun v48 =>
 PV (fldV T 79 v48 3) fun v49 =>
 PV (ldV T 26 v49 h_3) fun v50 =>
 PV (ixV T 26 v50 v30) fun v52 =>
 PV (ldV T 3 v52 h_3) fun v53 =>
 JN (fun (a66 : Value) (h_4 : Heap) =>
 (ifV a66
 (PV (nilV s_) fun v68 =>
 PV (fldV T 84 v68 0) fun v69 =>
 PV (ldV T 76 v69 h_4) fun v70 =>
 CALL Try.prog 155 #[v70, v23] h_4 (fun v72 h_5 =>
 R (.returned (Value.bool true)) h_5) (fun ch h_5 => R (.panicked ch) h_5))
 (PV (binV T .add 3 (X 20) (Value.int .i64 1)) fun v73 =>
 ∃ m', m' < m ∧ I m' [v73] h_4))) fun J =>
 PV (binV T .lss 3 v53 (Value.int .i64 0)) fun v55 =>
 (ifV v55
 (J (Value.bool true) h_3)
 (PV (nilV s_) fun v59 =>
 PV (fldV T 84 v59 0) fun v60 =>
 PV (ldV T 76 v60 h_3) fun v61 =>
 CALL Try.prog 86 #[v61, v53, v30] h_3 (fun v64 h_4 =>
 CALL Try.prog 157 #[s_, v64] h_4 (fun v65 h_5 =>
 J v65 h_5) (fun ch h_5 => R (.panicked ch) h_5)) (fun ch h_4 => R (.panicked ch) h_4)))))) (fun ch h_2 => R (.panicked ch) h_2))
 (R (.returned (Value.bool false)) h_1))

theorem H157 {s_ v_ : Value} {R : Ending → Heap → Prop} {h : Heap} (H : F157 s_ v_ R h) : HCalls Try.prog 157 #[s_, v_] h R := by
  have e : hw (opF Try.prog T 74) (drawF Try.prog T 74) 74 [] (Try.f157.body.getD .skip) (postF T [.tmp 4] R) (tm0 [s_, v_]) h = F157 s_ v_ R h := by kernel_rfl
  exact hcalls (args := [s_, v_]) TOKT mixed Try.func157 (c := Try.f157.body.getD .skip) rfl Try.ntmps157 (rs := [.tmp 4]) rfl (by simp) (by rw [e]; exact H)
theorem en157 : entersB Try.prog 157 := ⟨_, Try.func157, by kernel_rfl, by kernel_rfl⟩

/-- (*compass/bimatch.simple).match -/
def F156 (s_ : Value) (R : Ending → Heap → Prop) (h : Heap) : Prop :=
 PV (nilV s_) fun v4 =>
 PV (fldV T 84 v4 0) fun v5 =>
 PV (ldV T 76 v5 h) fun v6 =>
 PV (nilV v6) fun v7 =>
 PV (fldV T 79 v7 1) fun v8 =>
 PV (ldV T 3 v8 h) fun v9 =>
 ∃ I : Nat → List Value → Heap → Prop, (∃ m, I m [(Value.int .i64 0)] h) ∧
 ∀ m (X : Tm) h_1, I m [X 10] h_1 →
 PV (binV T .lss 3 (X 10) v9) fun v11 =>
 (ifV v11
 (PV (nilV s_) fun v15 =>
 PV (fldV T 84 v15 0) fun v16 =>
 PV (ldV T 76 v16 h_1) fun v17 =>
 PV (nilV v17) fun v18 =>
 PV (fldV T 79 v18 0) fun v19 =>
 PV (fldV T 25 v19 0) fun v20 =>
 PV (ldV T 3 v20 h_1) fun v21 =>
 alF (msV T 74 v21 v21) h_1 fun v22 h_2 =>
 PV (nilV s_) fun v23 =>
 PV (fldV T 84 v23 1) fun v24 =>
 PV (stV T 74 v24 v22 h_2) fun h_3 =>
 CALL Try.prog 157 #[s_, (X 10)] h_3 (fun v27 h_4 =>
 PV (binV T .add 3 (X 10) (Value.int .i64 1)) fun v28 =>
 ∃ m', m' < m ∧ I m' [v28] h_4) (fun ch h_4 => R (.panicked ch) h_4))
 (R (.returned (Value.tuple #[])) h_1))

theorem H156 {s_ : Value} {R : Ending → Heap → Prop} {h : Heap} (H : F156 s_ R h) : HCalls Try.prog 156 #[s_] h R := by
  have e : hw (opF Try.prog T 29) (drawF Try.prog T 29) 29 [] (Try.f156.body.getD .skip) (postF T [] R) (tm0 [s_]) h = F156 s_ R h := by kernel_rfl
  exact hcalls (args := [s_]) TOKT mixed Try.func156 (c := Try.f156.body.getD .skip) rfl Try.ntmps156 (rs := []) rfl (by simp) (by rw [e]; exact H)
theorem en156 : entersB Try.prog 156 := ⟨_, Try.func156, by kernel_rfl, by kernel_rfl⟩

/-- (*compass/bimatch.phases).along -/
def F160 (p_ v_ : Value) (R : Ending → Heap → Prop) (h : Heap) : Prop :=
 ∃ I : Nat → List Value → Heap → Prop, (∃ m, I m [] h) ∧
 ∀ m (X : Tm) h_1, I m [] h_1 →
 PV (nilV p_) fun v9 =>
 PV (fldV T 87 v9 2) fun v10 =>
 PV (ldV T 26 v10 h_1) fun v11 =>
 PV (ixV T 26 v11 v_) fun v13 =>
 PV (ldV T 3 v13 h_1) fun v14 =>
 PV (nilV p_) fun v16 =>
 PV (fldV T 87 v16 0) fun v17 =>
 PV (ldV T 76 v17 h_1) fun v18 =>
 PV (nilV v18) fun v19 =>
 PV (fldV T 79 v19 2) fun v20 =>
 PV (ldV T 77 v20 h_1) fun v21 =>
 PV (ixV T 77 v21 v_) fun v23 =>
 PV (ldV T 26 v23 h_1) fun v24 =>
 PV (lenV T 26 v24) fun v25 =>
 PV (binV T .lss 3 v14 v25) fun v26 =>
 (ifV v26
 (PV (nilV p_) fun v37 =>
 PV (fldV T 87 v37 0) fun v38 =>
 PV (ldV T 76 v38 h_1) fun v39 =>
 PV (nilV v39) fun v40 =>
 PV (fldV T 79 v40 2) fun v41 =>
 PV (ldV T 77 v41 h_1) fun v42 =>
 PV (ixV T 77 v42 v_) fun v44 =>
 PV (ldV T 26 v44 h_1) fun v45 =>
 PV (nilV p_) fun v47 =>
 PV (fldV T 87 v47 2) fun v48 =>
 PV (ldV T 26 v48 h_1) fun v49 =>
 PV (ixV T 26 v49 v_) fun v51 =>
 PV (ldV T 3 v51 h_1) fun v52 =>
 PV (ixV T 26 v45 v52) fun v53 =>
 PV (ldV T 3 v53 h_1) fun v54 =>
 PV (nilV p_) fun v56 =>
 PV (fldV T 87 v56 0) fun v57 =>
 PV (ldV T 76 v57 h_1) fun v58 =>
 PV (nilV v58) fun v59 =>
 PV (fldV T 79 v59 3) fun v60 =>
 PV (ldV T 26 v60 h_1) fun v61 =>
 PV (nilV p_) fun v63 =>
 PV (fldV T 87 v63 0) fun v64 =>
 PV (ldV T 76 v64 h_1) fun v65 =>
 CALL Try.prog 86 #[v65, v54, v_] h_1 (fun v68 h_2 =>
 Le h_1 h_2 ∧ (Cons h_2 → PV (ixV T 26 v61 v68) fun v69 =>
 PV (ldV T 3 v69 h_1) fun v70 =>
 JN (fun (h_3 : Heap) =>
 PV (nilV p_) fun v109 =>
 PV (fldV T 87 v109 0) fun v110 =>
 PV (ldV T 76 v110 h_3) fun v111 =>
 CALL Try.prog 155 #[v111, v54] h_3 (fun v113 h_4 =>
 R (.returned (Value.bool true)) h_4) (fun ch h_4 => R (.panicked ch) h_4)) fun J =>
 PV (binV T .geq 3 v70 (Value.int .i64 0)) fun v72 =>
 (ifV v72
 (PV (nilV p_) fun v74 =>
 PV (fldV T 87 v74 0) fun v75 =>
 PV (ldV T 76 v75 h_2) fun v76 =>
 PV (nilV p_) fun v79 =>
 PV (fldV T 87 v79 0) fun v80 =>
 PV (ldV T 76 v80 h_2) fun v81 =>
 CALL Try.prog 86 #[v81, v54, v_] h_2 (fun v84 h_3 =>
 Le h_2 h_3 ∧ (Cons h_3 → CALL Try.prog 86 #[v76, v70, v84] h_3 (fun v85 h_4 =>
 Cons h_4 → JN (fun (a107 : Value) (h_5 : Heap) =>
 (ifV a107
 (PV (nilV p_) fun v28 =>
 PV (fldV T 87 v28 2) fun v29 =>
 PV (ldV T 26 v29 h_5) fun v30 =>
 PV (ixV T 26 v30 v_) fun v32 =>
 PV (ldV T 3 v32 h_5) fun v33 =>
 PV (binV T .add 3 v33 (Value.int .i64 1)) fun v34 =>
 PV (ixV T 26 v30 v_) fun v35 =>
 PV (stV T 3 v35 v34 h_5) fun h_6 =>
 ∃ m', m' < m ∧ I m' [] h_6)
 (J  h_5))) fun J_1 =>
 PV (nilV p_) fun v87 =>
 PV (fldV T 87 v87 1) fun v88 =>
 PV (ldV T 26 v88 h_4) fun v89 =>
 PV (ixV T 26 v89 v85) fun v91 =>
 PV (ldV T 3 v91 h_4) fun v92 =>
 PV (nilV p_) fun v94 =>
 PV (fldV T 87 v94 1) fun v95 =>
 PV (ldV T 26 v95 h_4) fun v96 =>
 PV (ixV T 26 v96 v_) fun v98 =>
 PV (ldV T 3 v98 h_4) fun v99 =>
 PV (binV T .add 3 v99 (Value.int .i64 1)) fun v100 =>
 PV (binV T .neq 3 v92 v100) fun v101 =>
 (ifV v101
 (J_1 (Value.bool true) h_4)
 (CALL Try.prog 160 #[p_, v85] h_4 (fun v105 h_5 =>
 Cons h_5 → PV (unV .not v105) fun v106 =>
 J_1 v106 h_5) (fun ch h_5 => R (.panicked ch) h_5)))) (fun ch h_4 => R (.panicked ch) h_4))) (fun ch h_3 => False))
 (J  h_2)))) (fun ch h_2 => False))
 (PV (nilV p_) fun v115 =>
 PV (fldV T 87 v115 1) fun v116 =>
 PV (ldV T 26 v116 h_1) fun v117 =>
 PV (ixV T 26 v117 v_) fun v119 =>
 PV (stV T 3 v119 (Value.int .i64 (-1)) h_1) fun h_2 =>
 R (.returned (Value.bool false)) h_2))

theorem H160 {p_ v_ : Value} {R : Ending → Heap → Prop} {h : Heap} (H : F160 p_ v_ R h) : HCalls Try.prog 160 #[p_, v_] h R := by
  have e : hw (opF Try.prog T 120) (drawF Try.prog T 120) 120 [] (Try.f160.body.getD .skip) (postF T [.tmp 4] R) (tm0 [p_, v_]) h = F160 p_ v_ R h := by kernel_rfl
  exact hcalls (args := [p_, v_]) TOKT mixed Try.func160 (c := Try.f160.body.getD .skip) rfl Try.ntmps160 (rs := [.tmp 4]) rfl (by simp) (by rw [e]; exact H)
theorem en160 : entersB Try.prog 160 := ⟨_, Try.func160, by kernel_rfl, by kernel_rfl⟩

/-- (*compass/bimatch.phases).layer -/
def F159 (p_ : Value) (R : Ending → Heap → Prop) (h : Heap) : Prop :=
 PV (nilV p_) fun v14 =>
 PV (fldV T 87 v14 0) fun v15 =>
 PV (ldV T 76 v15 h) fun v16 =>
 PV (nilV v16) fun v17 =>
 PV (fldV T 79 v17 0) fun v18 =>
 PV (fldV T 25 v18 0) fun v19 =>
 PV (ldV T 3 v19 h) fun v20 =>
 alF (msV T 26 v20 v20) h fun v21 h_1 =>
 PV (nilV p_) fun v22 =>
 PV (fldV T 87 v22 1) fun v23 =>
 PV (stV T 26 v23 v21 h_1) fun h_2 =>
 PV (nilV p_) fun v26 =>
 PV (fldV T 87 v26 0) fun v27 =>
 PV (ldV T 76 v27 h_2) fun v28 =>
 PV (nilV v28) fun v29 =>
 PV (fldV T 79 v29 0) fun v30 =>
 PV (fldV T 25 v30 0) fun v31 =>
 PV (ldV T 3 v31 h_2) fun v32 =>
 alF (msV T 26 v32 v32) h_2 fun v33 h_3 =>
 PV (nilV p_) fun v34 =>
 PV (fldV T 87 v34 2) fun v35 =>
 PV (stV T 26 v35 v33 h_3) fun h_4 =>
 PV (nilV p_) fun v37 =>
 PV (fldV T 87 v37 1) fun v38 =>
 PV (ldV T 26 v38 h_4) fun v39 =>
 PV (lenV T 26 v39) fun v40 =>
 ∃ I : Nat → List Value → Heap → Prop, (∃ m, I m [(Value.int .i64 0), (Value.slice none 0 0)] h_4) ∧
 ∀ m (X : Tm) h_5, I m [X 41, X 3] h_5 →
 PV (binV T .lss 3 (X 41) v40) fun v42 =>
 (ifV v42
 (PV (nilV p_) fun v45 =>
 PV (fldV T 87 v45 1) fun v46 =>
 PV (ldV T 26 v46 h_5) fun v47 =>
 PV (ixV T 26 v47 (X 41)) fun v49 =>
 PV (stV T 3 v49 (Value.int .i64 (-1)) h_5) fun h_6 =>
 JN (fun (a71 : Value) (h_7 : Heap) =>
 (ifV a71
 (PV (nilV p_) fun v73 =>
 PV (fldV T 87 v73 1) fun v74 =>
 PV (ldV T 26 v74 h_7) fun v75 =>
 PV (ixV T 26 v75 (X 41)) fun v77 =>
 PV (stV T 3 v77 (Value.int .i64 0) h_7) fun h_8 =>
 alF (bsV T 26 1 #[(0, (X 41))]) h_8 fun v80 h_9 =>
 (26 = 26) ∧ AP T 26 (X 3) v80 (fun v81 h_10 =>
 PV (binV T .add 3 (X 41) (Value.int .i64 1)) fun v82 =>
 ∃ m', m' < m ∧ I m' [v82, v81] h_10) h_9)
 (PV (binV T .add 3 (X 41) (Value.int .i64 1)) fun v82 =>
 ∃ m', m' < m ∧ I m' [v82, (X 3)] h_7))) fun J =>
 PV (nilV p_) fun v52 =>
 PV (fldV T 87 v52 0) fun v53 =>
 PV (ldV T 76 v53 h_6) fun v54 =>
 PV (nilV v54) fun v55 =>
 PV (fldV T 79 v55 1) fun v56 =>
 PV (ldV T 3 v56 h_6) fun v57 =>
 PV (binV T .lss 3 (X 41) v57) fun v58 =>
 (ifV v58
 (PV (nilV p_) fun v61 =>
 PV (fldV T 87 v61 0) fun v62 =>
 PV (ldV T 76 v62 h_6) fun v63 =>
 PV (nilV v63) fun v64 =>
 PV (fldV T 79 v64 3) fun v65 =>
 PV (ldV T 26 v65 h_6) fun v66 =>
 PV (ixV T 26 v66 (X 41)) fun v68 =>
 PV (ldV T 3 v68 h_6) fun v69 =>
 PV (binV T .lss 3 v69 (Value.int .i64 0)) fun v70 =>
 J v70 h_6)
 (J (Value.bool false) h_6)))
 (∃ I_1 : Nat → List Value → Heap → Prop, (∃ m_1, I_1 m_1 [(Value.int .i64 0), (X 3), (Value.bool false)] h_5) ∧
 ∀ m_1 (X_1 : Tm) h_6, I_1 m_1 [X_1 6, X_1 3, X_1 5] h_6 →
 PV (lenV T 26 (X_1 3)) fun v85 =>
 PV (binV T .lss 3 (X_1 6) v85) fun v86 =>
 (ifV v86
 (PV (ixV T 26 (X_1 3) (X_1 6)) fun v91 =>
 PV (ldV T 3 v91 h_6) fun v92 =>
 PV (nilV p_) fun v94 =>
 PV (fldV T 87 v94 0) fun v95 =>
 PV (ldV T 76 v95 h_6) fun v96 =>
 PV (nilV v96) fun v97 =>
 PV (fldV T 79 v97 2) fun v98 =>
 PV (ldV T 77 v98 h_6) fun v99 =>
 PV (ixV T 77 v99 v92) fun v101 =>
 PV (ldV T 26 v101 h_6) fun v102 =>
 PV (lenV T 26 v102) fun v103 =>
 ∃ I_2 : Nat → List Value → Heap → Prop, (∃ m_2, I_2 m_2 [(Value.int .i64 0), (X_1 3), (X_1 5)] h_6) ∧
 ∀ m_2 (X_2 : Tm) h_7, I_2 m_2 [X_2 104, X_2 3, X_2 5] h_7 →
 PV (binV T .lss 3 (X_2 104) v103) fun v105 =>
 (ifV v105
 (PV (ixV T 26 v102 (X_2 104)) fun v106 =>
 PV (ldV T 3 v106 h_7) fun v107 =>
 PV (nilV p_) fun v109 =>
 PV (fldV T 87 v109 0) fun v110 =>
 PV (ldV T 76 v110 h_7) fun v111 =>
 PV (nilV v111) fun v112 =>
 PV (fldV T 79 v112 3) fun v113 =>
 PV (ldV T 26 v113 h_7) fun v114 =>
 PV (nilV p_) fun v116 =>
 PV (fldV T 87 v116 0) fun v117 =>
 PV (ldV T 76 v117 h_7) fun v118 =>
 CALL Try.prog 86 #[v118, v107, v92] h_7 (fun v121 h_8 =>
 Le h_7 h_8 ∧ (Cons h_8 → PV (ixV T 26 v114 v121) fun v122 =>
 PV (ldV T 3 v122 h_7) fun v123 =>
 PV (binV T .lss 3 v123 (Value.int .i64 0)) fun v125 =>
 (ifV v125
 (PV (binV T .add 3 (X_2 104) (Value.int .i64 1)) fun v165 =>
 ∃ m'_2, m'_2 < m_2 ∧ I_2 m'_2 [v165, (X_2 3), (Value.bool true)] h_8)
 (PV (nilV p_) fun v127 =>
 PV (fldV T 87 v127 0) fun v128 =>
 PV (ldV T 76 v128 h_8) fun v129 =>
 PV (nilV p_) fun v132 =>
 PV (fldV T 87 v132 0) fun v133 =>
 PV (ldV T 76 v133 h_8) fun v134 =>
 CALL Try.prog 86 #[v134, v107, v92] h_8 (fun v137 h_9 =>
 Le h_8 h_9 ∧ (Cons h_9 → CALL Try.prog 86 #[v129, v123, v137] h_9 (fun v138 h_10 =>
 Cons h_10 → PV (nilV p_) fun v140 =>
 PV (fldV T 87 v140 1) fun v141 =>
 PV (ldV T 26 v141 h_10) fun v142 =>
 PV (ixV T 26 v142 v138) fun v144 =>
 PV (ldV T 3 v144 h_10) fun v145 =>
 PV (binV T .lss 3 v145 (Value.int .i64 0)) fun v146 =>
 (ifV v146
 (PV (nilV p_) fun v148 =>
 PV (fldV T 87 v148 1) fun v149 =>
 PV (ldV T 26 v149 h_10) fun v150 =>
 PV (nilV p_) fun v153 =>
 PV (fldV T 87 v153 1) fun v154 =>
 PV (ldV T 26 v154 h_10) fun v155 =>
 PV (ixV T 26 v155 v92) fun v157 =>
 PV (ldV T 3 v157 h_10) fun v158 =>
 PV (binV T .add 3 v158 (Value.int .i64 1)) fun v159 =>
 PV (ixV T 26 v150 v138) fun v160 =>
 PV (stV T 3 v160 v159 h_10) fun h_11 =>
 Cons h_11 → alF (bsV T 26 1 #[(0, v138)]) h_11 fun v163 h_12 =>
 (26 = 26) ∧ AP T 26 (X_2 3) v163 (fun v164 h_13 =>
 PV (binV T .add 3 (X_2 104) (Value.int .i64 1)) fun v165 =>
 ∃ m'_2, m'_2 < m_2 ∧ I_2 m'_2 [v165, v164, (X_2 5)] h_13) h_12)
 (PV (binV T .add 3 (X_2 104) (Value.int .i64 1)) fun v165 =>
 ∃ m'_2, m'_2 < m_2 ∧ I_2 m'_2 [v165, (X_2 3), (X_2 5)] h_10))) (fun ch h_10 => R (.panicked ch) h_10))) (fun ch h_9 => False))))) (fun ch h_8 => False))
 (PV (binV T .add 3 (X_1 6) (Value.int .i64 1)) fun v88 =>
 ∃ m'_1, m'_1 < m_1 ∧ I_1 m'_1 [v88, (X_2 3), (X_2 5)] h_7)))
 (R (.returned (X_1 5)) h_6))))

theorem H159 {p_ : Value} {R : Ending → Heap → Prop} {h : Heap} (H : F159 p_ R h) : HCalls Try.prog 159 #[p_] h R := by
  have e : hw (opF Try.prog T 167) (drawF Try.prog T 167) 167 [3, 5, 6] (Try.f159.body.getD .skip) (postF T [.tmp 2] R) (tm0 [p_]) h = F159 p_ R h := by kernel_rfl
  exact hcalls (args := [p_]) TOKT mixed Try.func159 (c := Try.f159.body.getD .skip) rfl Try.ntmps159 (rs := [.tmp 2]) rfl (by simp) (by rw [e]; exact H)
theorem en159 : entersB Try.prog 159 := ⟨_, Try.func159, by kernel_rfl, by kernel_rfl⟩

/-- (*compass/bimatch.phases).match -/
def F158 (p_ : Value) (R : Ending → Heap → Prop) (h : Heap) : Prop :=
 ∃ I : Nat → List Value → Heap → Prop, (∃ m, I m [] h) ∧
 ∀ m (X : Tm) h_1, I m [] h_1 →
 CALL Try.prog 159 #[p_] h_1 (fun v4 h_2 =>
 (ifV v4
 (PV (nilV p_) fun v6 =>
 PV (fldV T 87 v6 0) fun v7 =>
 PV (ldV T 76 v7 h_2) fun v8 =>
 PV (nilV v8) fun v9 =>
 PV (fldV T 79 v9 1) fun v10 =>
 PV (ldV T 3 v10 h_2) fun v11 =>
 ∃ I_1 : Nat → List Value → Heap → Prop, (∃ m_1, I_1 m_1 [(Value.int .i64 0)] h_2) ∧
 ∀ m_1 (X_1 : Tm) h_3, I_1 m_1 [X_1 12] h_3 →
 PV (binV T .lss 3 (X_1 12) v11) fun v13 =>
 (ifV v13
 (PV (nilV p_) fun v16 =>
 PV (fldV T 87 v16 0) fun v17 =>
 PV (ldV T 76 v17 h_3) fun v18 =>
 PV (nilV v18) fun v19 =>
 PV (fldV T 79 v19 3) fun v20 =>
 PV (ldV T 26 v20 h_3) fun v21 =>
 PV (ixV T 26 v21 (X_1 12)) fun v23 =>
 PV (ldV T 3 v23 h_3) fun v24 =>
 PV (binV T .lss 3 v24 (Value.int .i64 0)) fun v25 =>
 (ifV v25
 (CALL Try.prog 160 #[p_, (X_1 12)] h_3 (fun v28 h_4 =>
 PV (binV T .add 3 (X_1 12) (Value.int .i64 1)) fun v29 =>
 ∃ m'_1, m'_1 < m_1 ∧ I_1 m'_1 [v29] h_4) (fun ch h_4 => R (.panicked ch) h_4))
 (PV (binV T .add 3 (X_1 12) (Value.int .i64 1)) fun v29 =>
 ∃ m'_1, m'_1 < m_1 ∧ I_1 m'_1 [v29] h_3)))
 (∃ m', m' < m ∧ I m' [] h_3)))
 (R (.returned (Value.tuple #[])) h_2))) (fun ch h_2 => R (.panicked ch) h_2)

theorem H158 {p_ : Value} {R : Ending → Heap → Prop} {h : Heap} (H : F158 p_ R h) : HCalls Try.prog 158 #[p_] h R := by
  have e : hw (opF Try.prog T 30) (drawF Try.prog T 30) 30 [] (Try.f158.body.getD .skip) (postF T [] R) (tm0 [p_]) h = F158 p_ R h := by kernel_rfl
  exact hcalls (args := [p_]) TOKT mixed Try.func158 (c := Try.f158.body.getD .skip) rfl Try.ntmps158 (rs := []) rfl (by simp) (by rw [e]; exact H)
theorem en158 : entersB Try.prog 158 := ⟨_, Try.func158, by kernel_rfl, by kernel_rfl⟩

/-- (*compass/bimatch.pairs).cover -/
def F43 (p_ : Value) (R : Ending → Heap → Prop) (h : Heap) : Prop :=
 PV (nilV p_) fun v15 =>
 PV (fldV T 79 v15 0) fun v16 =>
 PV (fldV T 25 v16 0) fun v17 =>
 PV (ldV T 3 v17 h) fun v18 =>
 alF (msV T 74 v18 v18) h fun v19 h_1 =>
 PV (nilV p_) fun v21 =>
 PV (fldV T 79 v21 1) fun v22 =>
 PV (ldV T 3 v22 h_1) fun v23 =>
 ∃ I : Nat → List Value → Heap → Prop, (∃ m, I m [(Value.int .i64 0), (Value.slice none 0 0)] h_1) ∧
 ∀ m (X : Tm) h_2, I m [X 24, X 4] h_2 →
 PV (binV T .lss 3 (X 24) v23) fun v25 =>
 (ifV v25
 (PV (nilV p_) fun v28 =>
 PV (fldV T 79 v28 3) fun v29 =>
 PV (ldV T 26 v29 h_2) fun v30 =>
 PV (ixV T 26 v30 (X 24)) fun v32 =>
 PV (ldV T 3 v32 h_2) fun v33 =>
 PV (binV T .lss 3 v33 (Value.int .i64 0)) fun v34 =>
 (ifV v34
 (PV (ixV T 74 v19 (X 24)) fun v37 =>
 PV (stV T 4 v37 (Value.bool true) h_2) fun h_3 =>
 alF (bsV T 26 1 #[(0, (X 24))]) h_3 fun v40 h_4 =>
 (26 = 26) ∧ AP T 26 (X 4) v40 (fun v41 h_5 =>
 PV (binV T .add 3 (X 24) (Value.int .i64 1)) fun v42 =>
 ∃ m', m' < m ∧ I m' [v42, v41] h_5) h_4)
 (PV (binV T .add 3 (X 24) (Value.int .i64 1)) fun v42 =>
 ∃ m', m' < m ∧ I m' [v42, (X 4)] h_2)))
 (∃ I_1 : Nat → List Value → Heap → Prop, (∃ m_1, I_1 m_1 [(X 4)] h_2) ∧
 ∀ m_1 (X_1 : Tm) h_3, I_1 m_1 [X_1 4] h_3 →
 PV (lenV T 26 (X_1 4)) fun v44 =>
 PV (binV T .gtr 3 v44 (Value.int .i64 0)) fun v45 =>
 (ifV v45
 (PV (lenV T 26 (X_1 4)) fun v48 =>
 PV (binV T .sub 3 v48 (Value.int .i64 1)) fun v49 =>
 PV (ixV T 26 (X_1 4) v49) fun v50 =>
 PV (ldV T 3 v50 h_3) fun v51 =>
 PV (lenV T 26 (X_1 4)) fun v54 =>
 PV (binV T .sub 3 v54 (Value.int .i64 1)) fun v55 =>
 PV (slV T 26 (X_1 4) none (some v55) none) fun v56 =>
 PV (nilV p_) fun v58 =>
 PV (fldV T 79 v58 2) fun v59 =>
 PV (ldV T 77 v59 h_3) fun v60 =>
 PV (ixV T 77 v60 v51) fun v62 =>
 PV (ldV T 26 v62 h_3) fun v63 =>
 PV (lenV T 26 v63) fun v64 =>
 ∃ I_2 : Nat → List Value → Heap → Prop, (∃ m_2, I_2 m_2 [(Value.int .i64 0), v56] h_3) ∧
 ∀ m_2 (X_2 : Tm) h_4, I_2 m_2 [X_2 65, X_2 4] h_4 →
 PV (binV T .lss 3 (X_2 65) v64) fun v66 =>
 (ifV v66
 (PV (ixV T 26 v63 (X_2 65)) fun v67 =>
 PV (ldV T 3 v67 h_4) fun v68 =>
 CALL Try.prog 86 #[p_, v68, v51] h_4 (fun v72 h_5 =>
 PV (ixV T 74 v19 v72) fun v75 =>
 PV (ldV T 4 v75 h_5) fun v76 =>
 (ifV v76
 (PV (binV T .add 3 (X_2 65) (Value.int .i64 1)) fun v102 =>
 ∃ m'_2, m'_2 < m_2 ∧ I_2 m'_2 [v102, (X_2 4)] h_5)
 (PV (ixV T 74 v19 v72) fun v79 =>
 PV (stV T 4 v79 (Value.bool true) h_5) fun h_6 =>
 PV (nilV p_) fun v82 =>
 PV (fldV T 79 v82 3) fun v83 =>
 PV (ldV T 26 v83 h_6) fun v84 =>
 PV (ixV T 26 v84 v72) fun v86 =>
 PV (ldV T 3 v86 h_6) fun v87 =>
 CALL Try.prog 86 #[p_, v87, v72] h_6 (fun v89 h_7 =>
 PV (ixV T 74 v19 v89) fun v92 =>
 PV (ldV T 4 v92 h_7) fun v93 =>
 PV (unV .not v93) fun v94 =>
 (ifV v94
 (PV (ixV T 74 v19 v89) fun v97 =>
 PV (stV T 4 v97 (Value.bool true) h_7) fun h_8 =>
 alF (bsV T 26 1 #[(0, v89)]) h_8 fun v100 h_9 =>
 (26 = 26) ∧ AP T 26 (X_2 4) v100 (fun v101 h_10 =>
 PV (binV T .add 3 (X_2 65) (Value.int .i64 1)) fun v102 =>
 ∃ m'_2, m'_2 < m_2 ∧ I_2 m'_2 [v102, v101] h_10) h_9)
 (PV (binV T .add 3 (X_2 65) (Value.int .i64 1)) fun v102 =>
 ∃ m'_2, m'_2 < m_2 ∧ I_2 m'_2 [v102, (X_2 4)] h_7))) (fun ch h_7 => R (.panicked ch) h_7)))) (fun ch h_5 => R (.panicked ch) h_5))
 (∃ m'_1, m'_1 < m_1 ∧ I_1 m'_1 [(X_2 4)] h_4)))
 (PV (lenV T 74 v19) fun v104 =>
 ∃ I_2 : Nat → List Value → Heap → Prop, (∃ m_2, I_2 m_2 [(Value.int .i64 0), (Value.slice none 0 0)] h_3) ∧
 ∀ m_2 (X_2 : Tm) h_4, I_2 m_2 [X_2 105, X_2 11] h_4 →
 PV (binV T .lss 3 (X_2 105) v104) fun v106 =>
 (ifV v106
 (PV (ixV T 74 v19 (X_2 105)) fun v108 =>
 PV (ldV T 4 v108 h_4) fun v109 =>
 PV (nilV p_) fun v113 =>
 PV (fldV T 79 v113 1) fun v114 =>
 PV (ldV T 3 v114 h_4) fun v115 =>
 PV (binV T .lss 3 (X_2 105) v115) fun v116 =>
 PV (binV T .neq 4 v109 v116) fun v117 =>
 (ifV v117
 (alF (bsV T 26 1 #[(0, (X_2 105))]) h_4 fun v120 h_5 =>
 (26 = 26) ∧ AP T 26 (X_2 11) v120 (fun v121 h_6 =>
 PV (binV T .add 3 (X_2 105) (Value.int .i64 1)) fun v122 =>
 ∃ m'_2, m'_2 < m_2 ∧ I_2 m'_2 [v122, v121] h_6) h_5)
 (PV (binV T .add 3 (X_2 105) (Value.int .i64 1)) fun v122 =>
 ∃ m'_2, m'_2 < m_2 ∧ I_2 m'_2 [v122, (X_2 11)] h_4)))
 (R (.returned (X_2 11)) h_4))))))

theorem H43 {p_ : Value} {R : Ending → Heap → Prop} {h : Heap} (H : F43 p_ R h) : HCalls Try.prog 43 #[p_] h R := by
  have e : hw (opF Try.prog T 124) (drawF Try.prog T 124) 124 [4, 11] (Try.f43.body.getD .skip) (postF T [.tmp 2] R) (tm0 [p_]) h = F43 p_ R h := by kernel_rfl
  exact hcalls (args := [p_]) TOKT mixed Try.func43 (c := Try.f43.body.getD .skip) rfl Try.ntmps43 (rs := [.tmp 2]) rfl (by simp) (by rw [e]; exact H)
theorem en43 : entersB Try.prog 43 := ⟨_, Try.func43, by kernel_rfl, by kernel_rfl⟩

/-- compass/graph.label -/
def F87 (e_ : Value) (R : Ending → Heap → Prop) (h : Heap) : Prop :=
 ∀ r, Heap.fresh h r →
 PV (fldV T 40 (Value.pointer (some ⟨r, 0, none⟩)) 2) fun v3 =>
 PV (ldV T 2 v3 (Heap.new h r (Value.cells e_) 40)) fun v4 =>
 PV (binV T .geq 2 v4 (Value.int .i64 0)) fun v5 =>
 (ifV v5
 (PV (fldV T 40 (Value.pointer (some ⟨r, 0, none⟩)) 2) fun v7 =>
 PV (ldV T 2 v7 (Heap.new h r (Value.cells e_) 40)) fun v8 =>
 PV (binV T .leq 2 v8 (Value.int .i64 1048576)) fun v9 =>
 (ifV v9
 (PV (fldV T 40 (Value.pointer (some ⟨r, 0, none⟩)) 3) fun v12 =>
 PV (ldV T 2 v12 (Heap.new h r (Value.cells e_) 40)) fun v13 =>
 PV (binV T .geq 2 v13 (Value.int .i64 (-1048576))) fun v14 =>
 (ifV v14
 (PV (fldV T 40 (Value.pointer (some ⟨r, 0, none⟩)) 3) fun v17 =>
 PV (ldV T 2 v17 (Heap.new h r (Value.cells e_) 40)) fun v18 =>
 PV (binV T .leq 2 v18 (Value.int .i64 1048576)) fun v19 =>
 R (.returned v19) (Heap.new h r (Value.cells e_) 40))
 (R (.returned (Value.bool false)) (Heap.new h r (Value.cells e_) 40))))
 (R (.returned (Value.bool false)) (Heap.new h r (Value.cells e_) 40))))
 (R (.returned (Value.bool false)) (Heap.new h r (Value.cells e_) 40)))

theorem H87 {e_ : Value} {R : Ending → Heap → Prop} {h : Heap} (H : F87 e_ R h) : HCalls Try.prog 87 #[e_] h R := by
  have e : hw (opF Try.prog T 21) (drawF Try.prog T 21) 21 [] (Try.f87.body.getD .skip) (postF T [.tmp 2] R) (tm0 [e_]) h = F87 e_ R h := by kernel_rfl
  exact hcalls (args := [e_]) TOKT mixed Try.func87 (c := Try.f87.body.getD .skip) rfl Try.ntmps87 (rs := [.tmp 2]) rfl (by simp) (by rw [e]; exact H)
theorem en87 : entersB Try.prog 87 := ⟨_, Try.func87, by kernel_rfl, by kernel_rfl⟩

/-- compass/graph.Check -/
def F44 (g_ : Value) (R : Ending → Heap → Prop) (h : Heap) : Prop :=
 ∀ r, Heap.fresh h r →
 ∀ r_1, Heap.fresh (Heap.new h r (Value.cells g_) 25) r_1 →
 JN (fun (a18 : Value) (h_1 : Heap) =>
 (ifV a18
 (PV (buildV T 31 #[(0, (Value.int .i64 3))]) fun v19 =>
 PV (stV T 31 (Value.pointer (some ⟨r_1, 0, none⟩)) v19 h_1) fun h_2 =>
 PV (ldV T 31 (Value.pointer (some ⟨r_1, 0, none⟩)) h_2) fun w2 =>
 R (.returned w2) h_2)
 (PV (fldV T 25 (Value.pointer (some ⟨r, 0, none⟩)) 1) fun v20 =>
 PV (ldV T 23 v20 h_1) fun v21 =>
 PV (lenV T 23 v21) fun v22 =>
 ∃ I : Nat → List Value → Heap → Prop, (∃ m, I m [(Value.int .i64 0)] h_1) ∧
 ∀ m (X : Tm) h_2, I m [X 23] h_2 →
 PV (binV T .lss 3 (X 23) v22) fun v24 =>
 (ifV v24
 (PV (ixV T 23 v21 (X 23)) fun v26 =>
 PV (ldV T 40 v26 h_2) fun v27 =>
 ∀ r_2, Heap.fresh h_2 r_2 →
 PV (stV T 40 (Value.pointer (some ⟨r_2, 0, none⟩)) v27 (Heap.new h_2 r_2 #[(Value.int .i64 0), (Value.int .i64 0), (Value.int .i64 0), (Value.int .i64 0)] 40)) fun h_3 =>
 JN (fun (a28 : Value) (h_4 : Heap) =>
 (ifV a28
 (PV (buildV T 31 #[(0, (Value.int .i64 30)), (1, (X 23))]) fun v52 =>
 PV (stV T 31 (Value.pointer (some ⟨r_1, 0, none⟩)) v52 h_4) fun h_5 =>
 PV (ldV T 31 (Value.pointer (some ⟨r_1, 0, none⟩)) h_5) fun w2 =>
 R (.returned w2) h_5)
 (PV (ldV T 40 (Value.pointer (some ⟨r_2, 0, none⟩)) h_4) fun v54 =>
 CALL Try.prog 87 #[v54] h_4 (fun v55 h_5 =>
 PV (unV .not v55) fun v56 =>
 (ifV v56
 (PV (buildV T 31 #[(0, (Value.int .i64 31)), (1, (X 23))]) fun v58 =>
 PV (stV T 31 (Value.pointer (some ⟨r_1, 0, none⟩)) v58 h_5) fun h_6 =>
 PV (ldV T 31 (Value.pointer (some ⟨r_1, 0, none⟩)) h_6) fun w2 =>
 R (.returned w2) h_6)
 (PV (binV T .add 3 (X 23) (Value.int .i64 1)) fun v59 =>
 ∃ m', m' < m ∧ I m' [v59] h_5))) (fun ch h_5 => R (.panicked ch) h_5)))) fun J_1 =>
 PV (fldV T 40 (Value.pointer (some ⟨r_2, 0, none⟩)) 0) fun v29 =>
 PV (ldV T 3 v29 h_3) fun v30 =>
 PV (binV T .lss 3 v30 (Value.int .i64 0)) fun v31 =>
 (ifV v31
 (J_1 (Value.bool true) h_3)
 (PV (fldV T 40 (Value.pointer (some ⟨r_2, 0, none⟩)) 0) fun v33 =>
 PV (ldV T 3 v33 h_3) fun v34 =>
 PV (fldV T 25 (Value.pointer (some ⟨r, 0, none⟩)) 0) fun v35 =>
 PV (ldV T 3 v35 h_3) fun v36 =>
 PV (binV T .geq 3 v34 v36) fun v37 =>
 (ifV v37
 (J_1 (Value.bool true) h_3)
 (PV (fldV T 40 (Value.pointer (some ⟨r_2, 0, none⟩)) 1) fun v40 =>
 PV (ldV T 3 v40 h_3) fun v41 =>
 PV (binV T .lss 3 v41 (Value.int .i64 0)) fun v42 =>
 (ifV v42
 (J_1 (Value.bool true) h_3)
 (PV (fldV T 40 (Value.pointer (some ⟨r_2, 0, none⟩)) 1) fun v45 =>
 PV (ldV T 3 v45 h_3) fun v46 =>
 PV (fldV T 25 (Value.pointer (some ⟨r, 0, none⟩)) 0) fun v47 =>
 PV (ldV T 3 v47 h_3) fun v48 =>
 PV (binV T .geq 3 v46 v48) fun v49 =>
 J_1 v49 h_3)))))))
 (PV (buildV T 31 #[]) fun v60 =>
 PV (stV T 31 (Value.pointer (some ⟨r_1, 0, none⟩)) v60 h_2) fun h_3 =>
 PV (ldV T 31 (Value.pointer (some ⟨r_1, 0, none⟩)) h_3) fun w2 =>
 R (.returned w2) h_3))))) fun J =>
 PV (fldV T 25 (Value.pointer (some ⟨r, 0, none⟩)) 0) fun v5 =>
 PV (ldV T 3 v5 (Heap.new (Heap.new h r (Value.cells g_) 25) r_1 #[(Value.int .i64 0), (Value.int .i64 0)] 31)) fun v6 =>
 PV (binV T .lss 3 v6 (Value.int .i64 0)) fun v7 =>
 (ifV v7
 (J (Value.bool true) (Heap.new (Heap.new h r (Value.cells g_) 25) r_1 #[(Value.int .i64 0), (Value.int .i64 0)] 31))
 (PV (fldV T 25 (Value.pointer (some ⟨r, 0, none⟩)) 0) fun v9 =>
 PV (ldV T 3 v9 (Heap.new (Heap.new h r (Value.cells g_) 25) r_1 #[(Value.int .i64 0), (Value.int .i64 0)] 31)) fun v10 =>
 PV (binV T .gtr 3 v10 (Value.int .i64 1024)) fun v11 =>
 (ifV v11
 (J (Value.bool true) (Heap.new (Heap.new h r (Value.cells g_) 25) r_1 #[(Value.int .i64 0), (Value.int .i64 0)] 31))
 (PV (fldV T 25 (Value.pointer (some ⟨r, 0, none⟩)) 1) fun v14 =>
 PV (ldV T 23 v14 (Heap.new (Heap.new h r (Value.cells g_) 25) r_1 #[(Value.int .i64 0), (Value.int .i64 0)] 31)) fun v15 =>
 PV (lenV T 23 v15) fun v16 =>
 PV (binV T .gtr 3 v16 (Value.int .i64 4096)) fun v17 =>
 J v17 (Heap.new (Heap.new h r (Value.cells g_) 25) r_1 #[(Value.int .i64 0), (Value.int .i64 0)] 31)))))

theorem H44 {g_ : Value} {R : Ending → Heap → Prop} {h : Heap} (H : F44 g_ R h) : HCalls Try.prog 44 #[g_] h R := by
  have e : hw (opF Try.prog T 61) (drawF Try.prog T 61) 61 [] (Try.f44.body.getD .skip) (postF T [.cell 2 31] R) (tm0 [g_]) h = F44 g_ R h := by kernel_rfl
  exact hcalls (args := [g_]) TOKT mixed Try.func44 (c := Try.f44.body.getD .skip) rfl Try.ntmps44 (rs := [.cell 2 31]) rfl (by simp) (by rw [e]; exact H)
theorem en44 : entersB Try.prog 44 := ⟨_, Try.func44, by kernel_rfl, by kernel_rfl⟩

/-- compass/bimatch.Sides -/
def F17 (g_ left_ : Value) (R : Ending → Heap → Prop) (h : Heap) : Prop :=
 ∀ r, Heap.fresh h r →
 ∀ r_1, Heap.fresh (Heap.new h r (Value.cells g_) 25) r_1 →
 PV (ldV T 25 (Value.pointer (some ⟨r, 0, none⟩)) (Heap.new (Heap.new h r (Value.cells g_) 25) r_1 #[(Value.int .i64 0), (Value.int .i64 0)] 31)) fun v8 =>
 CALL Try.prog 44 #[v8] (Heap.new (Heap.new h r (Value.cells g_) 25) r_1 #[(Value.int .i64 0), (Value.int .i64 0)] 31) (fun v9 h_1 =>
 ∀ r_2, Heap.fresh h_1 r_2 →
 PV (stV T 31 (Value.pointer (some ⟨r_2, 0, none⟩)) v9 (Heap.new h_1 r_2 #[(Value.int .i64 0), (Value.int .i64 0)] 31)) fun h_2 =>
 PV (fldV T 31 (Value.pointer (some ⟨r_2, 0, none⟩)) 0) fun v10 =>
 PV (ldV T 27 v10 h_2) fun v11 =>
 PV (binV T .neq 27 v11 (Value.int .i64 0)) fun v12 =>
 (ifV v12
 (PV (ldV T 31 (Value.pointer (some ⟨r_2, 0, none⟩)) h_2) fun v13 =>
 PV (stV T 31 (Value.pointer (some ⟨r_1, 0, none⟩)) v13 h_2) fun h_3 =>
 PV (ldV T 31 (Value.pointer (some ⟨r_1, 0, none⟩)) h_3) fun w4 =>
 R (.returned w4) h_3)
 (JN (fun (a21 : Value) (h_3 : Heap) =>
 (ifV a21
 (PV (buildV T 31 #[(0, (Value.int .i64 140))]) fun v22 =>
 PV (stV T 31 (Value.pointer (some ⟨r_1, 0, none⟩)) v22 h_3) fun h_4 =>
 PV (ldV T 31 (Value.pointer (some ⟨r_1, 0, none⟩)) h_4) fun w4 =>
 R (.returned w4) h_4)
 (PV (fldV T 25 (Value.pointer (some ⟨r, 0, none⟩)) 1) fun v23 =>
 PV (ldV T 23 v23 h_3) fun v24 =>
 PV (lenV T 23 v24) fun v25 =>
 ∃ I : Nat → List Value → Heap → Prop, (∃ m, I m [(Value.int .i64 0)] h_3) ∧
 ∀ m (X : Tm) h_4, I m [X 26] h_4 →
 PV (binV T .lss 3 (X 26) v25) fun v27 =>
 (ifV v27
 (PV (ixV T 23 v24 (X 26)) fun v29 =>
 PV (ldV T 40 v29 h_4) fun v30 =>
 ∀ r_3, Heap.fresh h_4 r_3 →
 PV (stV T 40 (Value.pointer (some ⟨r_3, 0, none⟩)) v30 (Heap.new h_4 r_3 #[(Value.int .i64 0), (Value.int .i64 0), (Value.int .i64 0), (Value.int .i64 0)] 40)) fun h_5 =>
 PV (fldV T 40 (Value.pointer (some ⟨r_3, 0, none⟩)) 0) fun v31 =>
 PV (ldV T 3 v31 h_5) fun v32 =>
 PV (binV T .lss 3 v32 left_) fun v34 =>
 PV (fldV T 40 (Value.pointer (some ⟨r_3, 0, none⟩)) 1) fun v35 =>
 PV (ldV T 3 v35 h_5) fun v36 =>
 PV (binV T .lss 3 v36 left_) fun v38 =>
 PV (binV T .eql 4 v34 v38) fun v39 =>
 (ifV v39
 (PV (buildV T 31 #[(0, (Value.int .i64 140)), (1, (X 26))]) fun v41 =>
 PV (stV T 31 (Value.pointer (some ⟨r_1, 0, none⟩)) v41 h_5) fun h_6 =>
 PV (ldV T 31 (Value.pointer (some ⟨r_1, 0, none⟩)) h_6) fun w4 =>
 R (.returned w4) h_6)
 (PV (binV T .add 3 (X 26) (Value.int .i64 1)) fun v42 =>
 ∃ m', m' < m ∧ I m' [v42] h_5)))
 (PV (buildV T 31 #[]) fun v43 =>
 PV (stV T 31 (Value.pointer (some ⟨r_1, 0, none⟩)) v43 h_4) fun h_5 =>
 PV (ldV T 31 (Value.pointer (some ⟨r_1, 0, none⟩)) h_5) fun w4 =>
 R (.returned w4) h_5))))) fun J =>
 PV (binV T .lss 3 left_ (Value.int .i64 0)) fun v15 =>
 (ifV v15
 (J (Value.bool true) h_2)
 (PV (fldV T 25 (Value.pointer (some ⟨r, 0, none⟩)) 0) fun v18 =>
 PV (ldV T 3 v18 h_2) fun v19 =>
 PV (binV T .gtr 3 left_ v19) fun v20 =>
 J v20 h_2))))) (fun ch h_1 => R (.panicked ch) h_1)

theorem H17 {g_ left_ : Value} {R : Ending → Heap → Prop} {h : Heap} (H : F17 g_ left_ R h) : HCalls Try.prog 17 #[g_, left_] h R := by
  have e : hw (opF Try.prog T 44) (drawF Try.prog T 44) 44 [] (Try.f17.body.getD .skip) (postF T [.cell 4 31] R) (tm0 [g_, left_]) h = F17 g_ left_ R h := by kernel_rfl
  exact hcalls (args := [g_, left_]) TOKT mixed Try.func17 (c := Try.f17.body.getD .skip) rfl Try.ntmps17 (rs := [.cell 4 31]) rfl (by simp) (by rw [e]; exact H)
theorem en17 : entersB Try.prog 17 := ⟨_, Try.func17, by kernel_rfl, by kernel_rfl⟩

/-- compass/bimatch.Solve -/
def F16 (g_ left_ kind_ : Value) (R : Ending → Heap → Prop) (h : Heap) : Prop :=
 ∀ r, Heap.fresh h r →
 PV (ldV T 25 (Value.pointer (some ⟨r, 0, none⟩)) (Heap.new h r (Value.cells g_) 25)) fun v18 =>
 CALL Try.prog 17 #[v18, left_] (Heap.new h r (Value.cells g_) 25) (fun v20 h_1 =>
 ∀ r_1, Heap.fresh h_1 r_1 →
 PV (stV T 31 (Value.pointer (some ⟨r_1, 0, none⟩)) v20 (Heap.new h_1 r_1 #[(Value.int .i64 0), (Value.int .i64 0)] 31)) fun h_2 =>
 PV (fldV T 31 (Value.pointer (some ⟨r_1, 0, none⟩)) 0) fun v21 =>
 PV (ldV T 27 v21 h_2) fun v22 =>
 PV (binV T .neq 27 v22 (Value.int .i64 0)) fun v23 =>
 (ifV v23
 (PV (fldV T 31 (Value.pointer (some ⟨r_1, 0, none⟩)) 0) fun v24 =>
 PV (ldV T 27 v24 h_2) fun v25 =>
 R (.returned (Value.tuple #[(Value.slice none 0 0), (Value.slice none 0 0), v25])) h_2)
 (PV (ldV T 25 (Value.pointer (some ⟨r, 0, none⟩)) h_2) fun v26 =>
 alF (msV T 77 left_ left_) h_2 fun v29 h_3 =>
 PV (fldV T 25 (Value.pointer (some ⟨r, 0, none⟩)) 0) fun v30 =>
 PV (ldV T 3 v30 h_2) fun v31 =>
 alF (msV T 26 v31 v31) h_3 fun v32 h_4 =>
 PV (buildV T 79 #[(0, v26), (1, left_), (2, v29), (3, v32)]) fun v33 =>
 ∀ r_2, Heap.fresh h_4 r_2 →
 PV (fldV T 25 (Value.pointer (some ⟨r, 0, none⟩)) 1) fun v35 =>
 PV (ldV T 23 v35 (Heap.new h_4 r_2 (Value.cells v33) 79)) fun v36 =>
 PV (lenV T 23 v36) fun v37 =>
 ∃ I : Nat → List Value → Heap → Prop, (∃ m, I m [(Value.int .i64 0)] (Heap.new h_4 r_2 (Value.cells v33) 79)) ∧
 ∀ m (X : Tm) h_5, I m [X 38] h_5 →
 PV (binV T .lss 3 (X 38) v37) fun v39 =>
 (ifV v39
 (PV (ixV T 23 v36 (X 38)) fun v41 =>
 PV (ldV T 40 v41 h_5) fun v42 =>
 ∀ r_3, Heap.fresh h_5 r_3 →
 PV (stV T 40 (Value.pointer (some ⟨r_3, 0, none⟩)) v42 (Heap.new h_5 r_3 #[(Value.int .i64 0), (Value.int .i64 0), (Value.int .i64 0), (Value.int .i64 0)] 40)) fun h_6 =>
 PV (fldV T 40 (Value.pointer (some ⟨r_3, 0, none⟩)) 0) fun v43 =>
 PV (ldV T 3 v43 h_6) fun v44 =>
 PV (fldV T 40 (Value.pointer (some ⟨r_3, 0, none⟩)) 1) fun v45 =>
 PV (ldV T 3 v45 h_6) fun v46 =>
 PV (min2V v44 v46) fun v47 =>
 PV (nilV (Value.pointer (some ⟨r_2, 0, none⟩))) fun v49 =>
 PV (fldV T 79 v49 2) fun v50 =>
 PV (ldV T 77 v50 h_6) fun v51 =>
 PV (nilV (Value.pointer (some ⟨r_2, 0, none⟩))) fun v54 =>
 PV (fldV T 79 v54 2) fun v55 =>
 PV (ldV T 77 v55 h_6) fun v56 =>
 PV (ixV T 77 v56 v47) fun v58 =>
 PV (ldV T 26 v58 h_6) fun v59 =>
 alF (bsV T 26 1 #[(0, (X 38))]) h_6 fun v61 h_7 =>
 (26 = 26) ∧ AP T 26 v59 v61 (fun v62 h_8 =>
 Le h_7 h_8 ∧ (Cons h_8 → PV (ixV T 77 v51 v47) fun v63 =>
 PV (stV T 26 v63 v62 h_8) fun h_9 =>
 Cons h_9 → PV (binV T .add 3 (X 38) (Value.int .i64 1)) fun v64 =>
 ∃ m', m' < m ∧ I m' [v64] h_9)) h_7)
 (PV (nilV (Value.pointer (some ⟨r_2, 0, none⟩))) fun v66 =>
 PV (fldV T 79 v66 3) fun v67 =>
 PV (ldV T 26 v67 h_5) fun v68 =>
 PV (lenV T 26 v68) fun v69 =>
 ∃ I_1 : Nat → List Value → Heap → Prop, (∃ m_1, I_1 m_1 [(Value.int .i64 0)] h_5) ∧
 ∀ m_1 (X_1 : Tm) h_6, I_1 m_1 [X_1 70] h_6 →
 PV (binV T .lss 3 (X_1 70) v69) fun v71 =>
 (ifV v71
 (PV (nilV (Value.pointer (some ⟨r_2, 0, none⟩))) fun v74 =>
 PV (fldV T 79 v74 3) fun v75 =>
 PV (ldV T 26 v75 h_6) fun v76 =>
 PV (ixV T 26 v76 (X_1 70)) fun v78 =>
 PV (stV T 3 v78 (Value.int .i64 (-1)) h_6) fun h_7 =>
 PV (binV T .add 3 (X_1 70) (Value.int .i64 1)) fun v79 =>
 ∃ m'_1, m'_1 < m_1 ∧ I_1 m'_1 [v79] h_7)
 (JN (fun (a6 : Value) (a15 : Value) (h_7 : Heap) =>
 INV Try.prog a15 "compass/bimatch.match" #[] (fun v94 h_8 =>
 PV (nilV (Value.pointer (some ⟨r_2, 0, none⟩))) fun v96 =>
 PV (fldV T 79 v96 3) fun v97 =>
 PV (ldV T 26 v97 h_8) fun v98 =>
 PV (slV T 26 v98 none (some left_) none) fun v100 =>
 PV (lenV T 26 v100) fun v101 =>
 ∃ I_2 : Nat → List Value → Heap → Prop, (∃ m_2, I_2 m_2 [(Value.int .i64 0), a6] h_8) ∧
 ∀ m_2 (X_2 : Tm) h_9, I_2 m_2 [X_2 102, X_2 6] h_9 →
 PV (binV T .lss 3 (X_2 102) v101) fun v103 =>
 (ifV v103
 (PV (ixV T 26 v100 (X_2 102)) fun v104 =>
 PV (ldV T 3 v104 h_9) fun v105 =>
 PV (binV T .geq 3 v105 (Value.int .i64 0)) fun v107 =>
 (ifV v107
 (alF (bsV T 26 1 #[(0, v105)]) h_9 fun v110 h_10 =>
 (26 = 26) ∧ AP T 26 (X_2 6) v110 (fun v111 h_11 =>
 PV (binV T .add 3 (X_2 102) (Value.int .i64 1)) fun v112 =>
 ∃ m'_2, m'_2 < m_2 ∧ I_2 m'_2 [v112, v111] h_11) h_10)
 (PV (binV T .add 3 (X_2 102) (Value.int .i64 1)) fun v112 =>
 ∃ m'_2, m'_2 < m_2 ∧ I_2 m'_2 [v112, (X_2 6)] h_9)))
 (CALL Try.prog 42 #[(X_2 6)] h_9 (fun v114 h_10 =>
 CALL Try.prog 43 #[(Value.pointer (some ⟨r_2, 0, none⟩))] h_10 (fun v117 h_11 =>
 R (.returned (Value.tuple #[(X_2 6), v117, (Value.int .i64 0)])) h_11) (fun ch h_11 => R (.panicked ch) h_11)) (fun ch h_10 => R (.panicked ch) h_10)))) (fun ch h_8 => R (.panicked ch) h_8) h_7) fun J =>
 PV (binV T .eql 3 kind_ (Value.int .i64 1)) fun v82 =>
 (ifV v82
 (PV (buildV T 84 #[(0, (Value.pointer (some ⟨r_2, 0, none⟩)))]) fun v84 =>
 ∀ r_3, Heap.fresh h_6 r_3 →
 PV (mkiV T 82 (Value.pointer (some ⟨r_3, 0, none⟩))) fun v86 =>
 J (Value.slice none 0 0) v86 (Heap.new h_6 r_3 (Value.cells v84) 84))
 (PV (binV T .eql 3 kind_ (Value.int .i64 2)) fun v88 =>
 (ifV v88
 (PV (buildV T 87 #[(0, (Value.pointer (some ⟨r_2, 0, none⟩)))]) fun v90 =>
 ∀ r_3, Heap.fresh h_6 r_3 →
 PV (mkiV T 85 (Value.pointer (some ⟨r_3, 0, none⟩))) fun v92 =>
 J (Value.slice none 0 0) v92 (Heap.new h_6 r_3 (Value.cells v90) 87))
 (R (.returned (Value.tuple #[(Value.slice none 0 0), (Value.slice none 0 0), (Value.int .i64 50)])) h_6))))))))))) (fun ch h_1 => R (.panicked ch) h_1)

theorem H16 {g_ left_ kind_ : Value} {R : Ending → Heap → Prop} {h : Heap} (H : F16 g_ left_ kind_ R h) : HCalls Try.prog 16 #[g_, left_, kind_] h R := by
  have e : hw (opF Try.prog T 118) (drawF Try.prog T 118) 118 [6, 7, 8, 15] (Try.f16.body.getD .skip) (postF T [.tmp 6, .tmp 7, .tmp 8] R) (tm0 [g_, left_, kind_]) h = F16 g_ left_ kind_ R h := by kernel_rfl
  exact hcalls (args := [g_, left_, kind_]) TOKT mixed Try.func16 (c := Try.f16.body.getD .skip) rfl Try.ntmps16 (rs := [.tmp 6, .tmp 7, .tmp 8]) rfl (by simp) (by rw [e]; exact H)
theorem en16 : entersB Try.prog 16 := ⟨_, Try.func16, by kernel_rfl, by kernel_rfl⟩

/-- compass/compasslaw15.path -/
def F41 (R : Ending → Heap → Prop) (h : Heap) : Prop :=
 ∀ r, Heap.fresh h r →
 PV (buildV T 40 #[(0, (Value.int .i64 0)), (1, (Value.int .i64 2))]) fun v1 =>
 PV (buildV T 40 #[(0, (Value.int .i64 2)), (1, (Value.int .i64 1))]) fun v2 =>
 PV (buildV T 40 #[(0, (Value.int .i64 1)), (1, (Value.int .i64 3))]) fun v3 =>
 alF (bsV T 23 3 #[(0, v1), (1, v2), (2, v3)]) (Heap.new h r #[(Value.int .i64 0), (Value.slice none 0 0)] 25) fun v4 h_1 =>
 PV (buildV T 25 #[(0, (Value.int .i64 4)), (1, v4)]) fun v5 =>
 PV (stV T 25 (Value.pointer (some ⟨r, 0, none⟩)) v5 h_1) fun h_2 =>
 PV (ldV T 25 (Value.pointer (some ⟨r, 0, none⟩)) h_2) fun w0 =>
 R (.returned w0) h_2

theorem H41 {R : Ending → Heap → Prop} {h : Heap} (H : F41 R h) : HCalls Try.prog 41 #[] h R := by
  have e : hw (opF Try.prog T 6) (drawF Try.prog T 6) 6 [] (Try.f41.body.getD .skip) (postF T [.cell 0 25] R) (tm0 []) h = F41  R h := by kernel_rfl
  exact hcalls (args := []) TOKT mixed Try.func41 (c := Try.f41.body.getD .skip) rfl Try.ntmps41 (rs := [.cell 0 25]) rfl (by simp) (by rw [e]; exact H)
theorem en41 : entersB Try.prog 41 := ⟨_, Try.func41, by kernel_rfl, by kernel_rfl⟩

/-- compass/compasslaw15.ints -/
def F18 (a_ b_ : Value) (R : Ending → Heap → Prop) (h : Heap) : Prop :=
 PV (lenV T 26 a_) fun v7 =>
 PV (lenV T 26 b_) fun v9 =>
 PV (binV T .neq 3 v7 v9) fun v10 =>
 (ifV v10
 (R (.returned (Value.bool false)) h)
 (PV (lenV T 26 a_) fun v12 =>
 ∃ I : Nat → List Value → Heap → Prop, (∃ m, I m [(Value.int .i64 0)] h) ∧
 ∀ m (X : Tm) h_1, I m [X 13] h_1 →
 PV (binV T .lss 3 (X 13) v12) fun v14 =>
 (ifV v14
 (PV (ixV T 26 a_ (X 13)) fun v18 =>
 PV (ldV T 3 v18 h_1) fun v19 =>
 PV (ixV T 26 b_ (X 13)) fun v22 =>
 PV (ldV T 3 v22 h_1) fun v23 =>
 PV (binV T .neq 3 v19 v23) fun v24 =>
 (ifV v24
 (R (.returned (Value.bool false)) h_1)
 (PV (binV T .add 3 (X 13) (Value.int .i64 1)) fun v25 =>
 ∃ m', m' < m ∧ I m' [v25] h_1)))
 (R (.returned (Value.bool true)) h_1))))

theorem H18 {a_ b_ : Value} {R : Ending → Heap → Prop} {h : Heap} (H : F18 a_ b_ R h) : HCalls Try.prog 18 #[a_, b_] h R := by
  have e : hw (opF Try.prog T 26) (drawF Try.prog T 26) 26 [] (Try.f18.body.getD .skip) (postF T [.tmp 4] R) (tm0 [a_, b_]) h = F18 a_ b_ R h := by kernel_rfl
  exact hcalls (args := [a_, b_]) TOKT mixed Try.func18 (c := Try.f18.body.getD .skip) rfl Try.ntmps18 (rs := [.tmp 4]) rfl (by simp) (by rw [e]; exact H)
theorem en18 : entersB Try.prog 18 := ⟨_, Try.func18, by kernel_rfl, by kernel_rfl⟩

/-- compass/compasslaw15.PairEnds -/
def F3 (nodes_ kind_ : Value) (R : Ending → Heap → Prop) (h : Heap) : Prop :=
 CALL Try.prog 15 #[] h (fun v12 h_1 =>
 PV (unV .not v12) fun v13 =>
 (ifV v13
 (R (.returned (Value.bool false)) h_1)
 (PV (buildV T 25 #[(0, nodes_)]) fun v15 =>
 ∀ r, Heap.fresh h_1 r →
 PV (stV T 25 (Value.pointer (some ⟨r, 0, none⟩)) v15 (Heap.new h_1 r #[(Value.int .i64 0), (Value.slice none 0 0)] 25)) fun h_2 =>
 alF (bsV T 26 2 #[(0, (Value.int .i64 0)), (1, nodes_)]) h_2 fun v17 h_3 =>
 PV (lenV T 26 v17) fun v18 =>
 ∃ I : Nat → List Value → Heap → Prop, (∃ m, I m [(Value.int .i64 0)] h_3) ∧
 ∀ m (X : Tm) h_4, I m [X 19] h_4 →
 PV (binV T .lss 3 (X 19) v18) fun v20 =>
 (ifV v20
 (PV (ixV T 26 v17 (X 19)) fun v21 =>
 PV (ldV T 3 v21 h_4) fun v22 =>
 PV (ldV T 25 (Value.pointer (some ⟨r, 0, none⟩)) h_4) fun v24 =>
 CALL Try.prog 16 #[v24, v22, kind_] h_4 (fun v27 h_5 =>
 PV (extV v27 0) fun v28 =>
 PV (extV v27 1) fun v29 =>
 PV (extV v27 2) fun v30 =>
 PV (lenV T 26 v28) fun v32 =>
 PV (binV T .neq 3 v32 (Value.int .i64 0)) fun v33 =>
 (ifV v33
 (R (.returned (Value.bool false)) h_5)
 (PV (lenV T 26 v29) fun v36 =>
 PV (binV T .neq 3 v36 (Value.int .i64 0)) fun v37 =>
 (ifV v37
 (R (.returned (Value.bool false)) h_5)
 (PV (binV T .eql 27 v30 (Value.int .i64 0)) fun v41 =>
 PV (binV T .geq 3 nodes_ (Value.int .i64 0)) fun v43 =>
 (ifV v43
 (PV (binV T .leq 3 nodes_ (Value.int .i64 1024)) fun v46 =>
 (ifV v46
 (PV (binV T .geq 3 kind_ (Value.int .i64 1)) fun v50 =>
 (ifV v50
 (PV (binV T .leq 3 kind_ (Value.int .i64 2)) fun v54 =>
 PV (binV T .neq 4 v41 v54) fun v56 =>
 (ifV v56
 (R (.returned (Value.bool false)) h_5)
 (PV (binV T .add 3 (X 19) (Value.int .i64 1)) fun v58 =>
 ∃ m', m' < m ∧ I m' [v58] h_5)))
 (PV (binV T .neq 4 v41 (Value.bool false)) fun v56 =>
 (ifV v56
 (R (.returned (Value.bool false)) h_5)
 (PV (binV T .add 3 (X 19) (Value.int .i64 1)) fun v58 =>
 ∃ m', m' < m ∧ I m' [v58] h_5)))))
 (PV (binV T .neq 4 v41 (Value.bool false)) fun v56 =>
 (ifV v56
 (R (.returned (Value.bool false)) h_5)
 (PV (binV T .add 3 (X 19) (Value.int .i64 1)) fun v58 =>
 ∃ m', m' < m ∧ I m' [v58] h_5)))))
 (PV (binV T .neq 4 v41 (Value.bool false)) fun v56 =>
 (ifV v56
 (R (.returned (Value.bool false)) h_5)
 (PV (binV T .add 3 (X 19) (Value.int .i64 1)) fun v58 =>
 ∃ m', m' < m ∧ I m' [v58] h_5))))))))) (fun ch h_5 => R (.panicked ch) h_5))
 (PV (ldV T 25 (Value.pointer (some ⟨r, 0, none⟩)) h_4) fun v59 =>
 CALL Try.prog 17 #[v59, nodes_] h_4 (fun v61 h_5 =>
 ∀ r_1, Heap.fresh h_5 r_1 →
 PV (stV T 31 (Value.pointer (some ⟨r_1, 0, none⟩)) v61 (Heap.new h_5 r_1 #[(Value.int .i64 0), (Value.int .i64 0)] 31)) fun h_6 =>
 PV (fldV T 31 (Value.pointer (some ⟨r_1, 0, none⟩)) 0) fun v62 =>
 PV (ldV T 27 v62 h_6) fun v63 =>
 PV (binV T .eql 27 v63 (Value.int .i64 0)) fun v64 =>
 PV (binV T .geq 3 nodes_ (Value.int .i64 0)) fun v66 =>
 (ifV v66
 (PV (binV T .leq 3 nodes_ (Value.int .i64 1024)) fun v69 =>
 PV (binV T .eql 4 v64 v69) fun v71 =>
 (ifV v71
 (PV (fldV T 31 (Value.pointer (some ⟨r_1, 0, none⟩)) 1) fun v73 =>
 PV (ldV T 3 v73 h_6) fun v74 =>
 alF (bsV T 26 1 #[(0, v74)]) h_6 fun v75 h_7 =>
 alF (bsV T 26 1 #[(0, (Value.int .i64 0))]) h_7 fun v76 h_8 =>
 CALL Try.prog 18 #[v75, v76] h_8 (fun v77 h_9 =>
 R (.returned v77) h_9) (fun ch h_9 => R (.panicked ch) h_9))
 (R (.returned (Value.bool false)) h_6)))
 (PV (binV T .eql 4 v64 (Value.bool false)) fun v71 =>
 (ifV v71
 (PV (fldV T 31 (Value.pointer (some ⟨r_1, 0, none⟩)) 1) fun v73 =>
 PV (ldV T 3 v73 h_6) fun v74 =>
 alF (bsV T 26 1 #[(0, v74)]) h_6 fun v75 h_7 =>
 alF (bsV T 26 1 #[(0, (Value.int .i64 0))]) h_7 fun v76 h_8 =>
 CALL Try.prog 18 #[v75, v76] h_8 (fun v77 h_9 =>
 R (.returned v77) h_9) (fun ch h_9 => R (.panicked ch) h_9))
 (R (.returned (Value.bool false)) h_6))))) (fun ch h_5 => R (.panicked ch) h_5)))))) (fun ch h_1 => R (.panicked ch) h_1)

theorem H3 {nodes_ kind_ : Value} {R : Ending → Heap → Prop} {h : Heap} (H : F3 nodes_ kind_ R h) : HCalls Try.prog 3 #[nodes_, kind_] h R := by
  have e : hw (opF Try.prog T 79) (drawF Try.prog T 79) 79 [] (Try.f3.body.getD .skip) (postF T [.tmp 4] R) (tm0 [nodes_, kind_]) h = F3 nodes_ kind_ R h := by kernel_rfl
  exact hcalls (args := [nodes_, kind_]) TOKT mixed Try.func3 (c := Try.f3.body.getD .skip) rfl Try.ntmps3 (rs := [.tmp 4]) rfl (by simp) (by rw [e]; exact H)
theorem en3 : entersB Try.prog 3 := ⟨_, Try.func3, by kernel_rfl, by kernel_rfl⟩

/-- compass/compasslaw15.awake -/
def F15 (R : Ending → Heap → Prop) (h : Heap) : Prop :=
 ∃ I : Nat → List Value → Heap → Prop, (∃ m, I m [(Value.int .i64 1)] h) ∧
 ∀ m (X : Tm) h_1, I m [X 1] h_1 →
 PV (binV T .leq 3 (X 1) (Value.int .i64 2)) fun v6 =>
 (ifV v6
 (CALL Try.prog 41 #[] h_1 (fun v10 h_2 =>
 CALL Try.prog 16 #[v10, (Value.int .i64 2), (X 1)] h_2 (fun v12 h_3 =>
 PV (extV v12 0) fun v13 =>
 PV (extV v12 1) fun v14 =>
 PV (extV v12 2) fun v15 =>
 PV (binV T .neq 27 v15 (Value.int .i64 0)) fun v17 =>
 (ifV v17
 (R (.returned (Value.bool false)) h_3)
 (PV (lenV T 26 v13) fun v20 =>
 PV (binV T .neq 3 v20 (Value.int .i64 2)) fun v21 =>
 (ifV v21
 (R (.returned (Value.bool false)) h_3)
 (PV (ixV T 26 v13 (Value.int .i64 0)) fun v25 =>
 PV (ldV T 3 v25 h_3) fun v26 =>
 PV (binV T .neq 3 v26 (Value.int .i64 0)) fun v27 =>
 (ifV v27
 (R (.returned (Value.bool false)) h_3)
 (PV (ixV T 26 v13 (Value.int .i64 1)) fun v31 =>
 PV (ldV T 3 v31 h_3) fun v32 =>
 PV (binV T .neq 3 v32 (Value.int .i64 2)) fun v33 =>
 (ifV v33
 (R (.returned (Value.bool false)) h_3)
 (PV (lenV T 26 v14) fun v37 =>
 PV (binV T .neq 3 v37 (Value.int .i64 2)) fun v38 =>
 (ifV v38
 (R (.returned (Value.bool false)) h_3)
 (PV (binV T .add 3 (X 1) (Value.int .i64 1)) fun v8 =>
 ∃ m', m' < m ∧ I m' [v8] h_3))))))))))) (fun ch h_3 => R (.panicked ch) h_3)) (fun ch h_2 => R (.panicked ch) h_2))
 (CALL Try.prog 41 #[] h_1 (fun v41 h_2 =>
 CALL Try.prog 17 #[v41, (Value.int .i64 1)] h_2 (fun v42 h_3 =>
 PV (buildV T 31 #[(0, (Value.int .i64 140)), (1, (Value.int .i64 1))]) fun v43 =>
 PV (binV T .eql 31 v42 v43) fun v44 =>
 R (.returned v44) h_3) (fun ch h_3 => R (.panicked ch) h_3)) (fun ch h_2 => R (.panicked ch) h_2)))

theorem H15 {R : Ending → Heap → Prop} {h : Heap} (H : F15 R h) : HCalls Try.prog 15 #[] h R := by
  have e : hw (opF Try.prog T 46) (drawF Try.prog T 46) 46 [1] (Try.f15.body.getD .skip) (postF T [.tmp 0] R) (tm0 []) h = F15  R h := by kernel_rfl
  exact hcalls (args := []) TOKT mixed Try.func15 (c := Try.f15.body.getD .skip) rfl Try.ntmps15 (rs := [.tmp 0]) rfl (by simp) (by rw [e]; exact H)
theorem en15 : entersB Try.prog 15 := ⟨_, Try.func15, by kernel_rfl, by kernel_rfl⟩

end Go.Proofs.Ythchjolcjicpgaa
