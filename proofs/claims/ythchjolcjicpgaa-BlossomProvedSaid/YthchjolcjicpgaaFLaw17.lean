/- MADE BY gen.py: what is asked so that a function's call does what is said, in the order of its text; each held against the loaded code by the kernel. -/
import Derived.Test.YthchjolcjicpgaaTab
namespace Go.Proofs.Ythchjolcjicpgaa
open Go.HW

/-- compass/compasslaw17.five -/
def F53 (R : Ending → Heap → Prop) (h : Heap) : Prop :=
 ∀ r, Heap.fresh h r →
 PV (buildV T 40 #[(0, (Value.int .i64 0)), (1, (Value.int .i64 1))]) fun v1 =>
 PV (buildV T 40 #[(0, (Value.int .i64 1)), (1, (Value.int .i64 2))]) fun v2 =>
 PV (buildV T 40 #[(0, (Value.int .i64 2)), (1, (Value.int .i64 3))]) fun v3 =>
 PV (buildV T 40 #[(0, (Value.int .i64 3)), (1, (Value.int .i64 4))]) fun v4 =>
 PV (buildV T 40 #[(0, (Value.int .i64 4)), (1, (Value.int .i64 0))]) fun v5 =>
 PV (buildV T 40 #[(0, (Value.int .i64 0)), (1, (Value.int .i64 5))]) fun v6 =>
 alF (bsV T 23 6 #[(0, v1), (1, v2), (2, v3), (3, v4), (4, v5), (5, v6)]) (Heap.new h r #[(Value.int .i64 0), (Value.slice none 0 0)] 25) fun v7 h_1 =>
 PV (buildV T 25 #[(0, (Value.int .i64 6)), (1, v7)]) fun v8 =>
 PV (stV T 25 (Value.pointer (some ⟨r, 0, none⟩)) v8 h_1) fun h_2 =>
 PV (ldV T 25 (Value.pointer (some ⟨r, 0, none⟩)) h_2) fun w0 =>
 R (.returned w0) h_2

theorem H53 {R : Ending → Heap → Prop} {h : Heap} (H : F53 R h) : HCalls Try.prog 53 #[] h R := by
  have e : hw (opF Try.prog T 9) (drawF Try.prog T 9) 9 [] (Try.f53.body.getD .skip) (postF T [.cell 0 25] R) (tm0 []) h = F53  R h := by kernel_rfl
  exact hcalls (args := []) TOKT mixed Try.func53 (c := Try.f53.body.getD .skip) rfl Try.ntmps53 (rs := [.cell 0 25]) rfl (by simp) (by rw [e]; exact H)
theorem en53 : entersB Try.prog 53 := ⟨_, Try.func53, by kernel_rfl, by kernel_rfl⟩

/-- compass/compasslaw17.awake -/
def F22 (R : Ending → Heap → Prop) (h : Heap) : Prop :=
 CALL Try.prog 53 #[] h (fun v8 h_1 =>
 CALL Try.prog 23 #[v8] h_1 (fun v9 h_2 =>
 PV (extV v9 0) fun v10 =>
 PV (extV v9 1) fun v11 =>
 PV (extV v9 2) fun v12 =>
 PV (buildV T 40 #[(0, (Value.int .i64 0)), (1, (Value.int .i64 1))]) fun v14 =>
 PV (buildV T 40 #[(0, (Value.int .i64 0)), (1, (Value.int .i64 2))]) fun v15 =>
 PV (buildV T 40 #[(0, (Value.int .i64 3)), (1, (Value.int .i64 0))]) fun v16 =>
 alF (bsV T 23 3 #[(0, v14), (1, v15), (2, v16)]) h_2 fun v17 h_3 =>
 PV (buildV T 25 #[(0, (Value.int .i64 4)), (1, v17)]) fun v18 =>
 CALL Try.prog 23 #[v18] h_3 (fun v19 h_4 =>
 PV (extV v19 0) fun v20 =>
 PV (extV v19 1) fun v21 =>
 PV (extV v19 2) fun v22 =>
 PV (binV T .eql 27 v12 (Value.int .i64 0)) fun v24 =>
 (ifV v24
 (PV (lenV T 26 v10) fun v27 =>
 PV (binV T .eql 3 v27 (Value.int .i64 3)) fun v28 =>
 (ifV v28
 (PV (ixV T 26 v10 (Value.int .i64 2)) fun v32 =>
 PV (ldV T 3 v32 h_4) fun v33 =>
 PV (binV T .eql 3 v33 (Value.int .i64 5)) fun v34 =>
 (ifV v34
 (PV (binV T .eql 27 v22 (Value.int .i64 0)) fun v38 =>
 (ifV v38
 (PV (lenV T 26 v20) fun v42 =>
 PV (binV T .eql 3 v42 (Value.int .i64 1)) fun v43 =>
 (ifV v43
 (PV (lenV T 26 v21) fun v47 =>
 PV (binV T .eql 3 v47 (Value.int .i64 1)) fun v48 =>
 (ifV v48
 (PV (ixV T 26 v21 (Value.int .i64 0)) fun v52 =>
 PV (ldV T 3 v52 h_4) fun v53 =>
 PV (binV T .eql 3 v53 (Value.int .i64 0)) fun v54 =>
 R (.returned v54) h_4)
 (R (.returned (Value.bool false)) h_4)))
 (R (.returned (Value.bool false)) h_4)))
 (R (.returned (Value.bool false)) h_4)))
 (R (.returned (Value.bool false)) h_4)))
 (R (.returned (Value.bool false)) h_4)))
 (R (.returned (Value.bool false)) h_4))) (fun ch h_4 => R (.panicked ch) h_4)) (fun ch h_2 => R (.panicked ch) h_2)) (fun ch h_1 => R (.panicked ch) h_1)

theorem H22 {R : Ending → Heap → Prop} {h : Heap} (H : F22 R h) : HCalls Try.prog 22 #[] h R := by
  have e : hw (opF Try.prog T 56) (drawF Try.prog T 56) 56 [] (Try.f22.body.getD .skip) (postF T [.tmp 0] R) (tm0 []) h = F22  R h := by kernel_rfl
  exact hcalls (args := []) TOKT mixed Try.func22 (c := Try.f22.body.getD .skip) rfl Try.ntmps22 (rs := [.tmp 0]) rfl (by simp) (by rw [e]; exact H)
theorem en22 : entersB Try.prog 22 := ⟨_, Try.func22, by kernel_rfl, by kernel_rfl⟩

/-- compass/compasslaw17.BlossomKeeps -/
def F6 (g_ : Value) (R : Ending → Heap → Prop) (h : Heap) : Prop :=
 ∀ r, Heap.fresh h r →
 CALL Try.prog 22 #[] (Heap.new h r (Value.cells g_) 25) (fun v14 h_1 =>
 PV (unV .not v14) fun v15 =>
 (ifV v15
 (R (.returned (Value.bool false)) h_1)
 (PV (ldV T 25 (Value.pointer (some ⟨r, 0, none⟩)) h_1) fun v16 =>
 CALL Try.prog 20 #[v16] h_1 (fun v17 h_2 =>
 ∀ r_1, Heap.fresh h_2 r_1 →
 PV (stV T 25 (Value.pointer (some ⟨r_1, 0, none⟩)) v17 (Heap.new h_2 r_1 #[(Value.int .i64 0), (Value.slice none 0 0)] 25)) fun h_3 =>
 PV (fldV T 25 (Value.pointer (some ⟨r_1, 0, none⟩)) 1) fun v18 =>
 PV (ldV T 23 v18 h_3) fun v19 =>
 PV (buildV T 40 #[(2, (Value.int .i64 (-7)))]) fun v20 =>
 alF (bsV T 23 1 #[(0, v20)]) h_3 fun v21 h_4 =>
 (23 = 23) ∧ AP T 23 v19 v21 (fun v22 h_5 =>
 Le h_4 h_5 ∧ (Cons h_5 → PV (fldV T 25 (Value.pointer (some ⟨r, 0, none⟩)) 1) fun v23 =>
 PV (ldV T 23 v23 h_3) fun v24 =>
 PV (lenV T 23 v24) fun v25 =>
 PV (slV T 23 v22 none (some v25) none) fun v26 =>
 PV (fldV T 25 (Value.pointer (some ⟨r_1, 0, none⟩)) 1) fun v27 =>
 PV (stV T 23 v27 v26 h_5) fun h_6 =>
 Cons h_6 → PV (ldV T 25 (Value.pointer (some ⟨r_1, 0, none⟩)) h_6) fun v29 =>
 CALL Try.prog 23 #[v29] h_6 (fun v30 h_7 =>
 PV (extV v30 0) fun v31 =>
 PV (extV v30 1) fun v32 =>
 PV (extV v30 2) fun v33 =>
 PV (ldV T 25 (Value.pointer (some ⟨r_1, 0, none⟩)) h_7) fun v35 =>
 CALL Try.prog 23 #[v35] h_7 (fun v36 h_8 =>
 PV (extV v36 0) fun v37 =>
 PV (extV v36 1) fun v38 =>
 PV (extV v36 2) fun v39 =>
 JN (fun (a59 : Value) (h_9 : Heap) =>
 (ifV a59
 (R (.returned (Value.bool false)) h_9)
 (PV (lenV T 26 v31) fun v61 =>
 ∃ I : Nat → List Value → Heap → Prop, (∃ m, I m [(Value.int .i64 0)] h_9) ∧
 ∀ m (X : Tm) h_10, I m [X 62] h_10 →
 PV (binV T .lss 3 (X 62) v61) fun v63 =>
 (ifV v63
 (PV (ixV T 26 v31 (X 62)) fun v67 =>
 PV (stV T 3 v67 (Value.int .i64 (-9)) h_10) fun h_11 =>
 PV (binV T .add 3 (X 62) (Value.int .i64 1)) fun v68 =>
 ∃ m', m' < m ∧ I m' [v68] h_11)
 (PV (lenV T 26 v32) fun v70 =>
 ∃ I_1 : Nat → List Value → Heap → Prop, (∃ m_1, I_1 m_1 [(Value.int .i64 0)] h_10) ∧
 ∀ m_1 (X_1 : Tm) h_11, I_1 m_1 [X_1 71] h_11 →
 PV (binV T .lss 3 (X_1 71) v70) fun v72 =>
 (ifV v72
 (PV (ixV T 26 v32 (X_1 71)) fun v76 =>
 PV (stV T 3 v76 (Value.int .i64 (-9)) h_11) fun h_12 =>
 PV (binV T .add 3 (X_1 71) (Value.int .i64 1)) fun v77 =>
 ∃ m'_1, m'_1 < m_1 ∧ I_1 m'_1 [v77] h_12)
 (PV (binV T .neq 27 v33 (Value.int .i64 0)) fun v79 =>
 (ifV v79
 (PV (lenV T 26 v37) fun v81 =>
 PV (binV T .eql 3 v81 (Value.int .i64 0)) fun v82 =>
 (ifV v82
 (PV (lenV T 26 v38) fun v85 =>
 PV (binV T .eql 3 v85 (Value.int .i64 0)) fun v86 =>
 R (.returned v86) h_11)
 (R (.returned (Value.bool false)) h_11)))
 (PV (ldV T 25 (Value.pointer (some ⟨r, 0, none⟩)) h_11) fun v89 =>
 CALL Try.prog 24 #[v89, v37, v38] h_11 (fun v92 h_12 =>
 PV (extV v92 0) fun v93 =>
 PV (extV v92 1) fun v94 =>
 PV (binV T .eql 27 v94 (Value.int .i64 0)) fun v96 =>
 R (.returned v96) h_12) (fun ch h_12 => R (.panicked ch) h_12)))))))))) fun J =>
 PV (ldV T 25 (Value.pointer (some ⟨r_1, 0, none⟩)) h_8) fun v40 =>
 PV (ldV T 25 (Value.pointer (some ⟨r, 0, none⟩)) h_8) fun v41 =>
 CALL Try.prog 21 #[v40, v41] h_8 (fun v42 h_9 =>
 Cons h_9 → PV (unV .not v42) fun v43 =>
 (ifV v43
 (J (Value.bool true) h_9)
 (PV (fldV T 25 (Value.pointer (some ⟨r_1, 0, none⟩)) 1) fun v45 =>
 PV (ldV T 23 v45 h_9) fun v46 =>
 PV (fldV T 25 (Value.pointer (some ⟨r, 0, none⟩)) 1) fun v47 =>
 PV (ldV T 23 v47 h_9) fun v48 =>
 PV (lenV T 23 v48) fun v49 =>
 PV (binV T .add 3 v49 (Value.int .i64 1)) fun v50 =>
 PV (slV T 23 v46 none (some v50) none) fun v51 =>
 PV (fldV T 25 (Value.pointer (some ⟨r, 0, none⟩)) 1) fun v52 =>
 PV (ldV T 23 v52 h_9) fun v53 =>
 PV (lenV T 23 v53) fun v54 =>
 PV (ixV T 23 v51 v54) fun v55 =>
 PV (fldV T 40 v55 2) fun v56 =>
 PV (ldV T 2 v56 h_9) fun v57 =>
 PV (binV T .neq 2 v57 (Value.int .i64 (-7))) fun v58 =>
 J v58 h_9))) (fun ch h_9 => R (.panicked ch) h_9)) (fun ch h_8 => R (.panicked ch) h_8)) (fun ch h_7 => R (.panicked ch) h_7))) h_4) (fun ch h_2 => R (.panicked ch) h_2)))) (fun ch h_1 => R (.panicked ch) h_1)

theorem H6 {g_ : Value} {R : Ending → Heap → Prop} {h : Heap} (H : F6 g_ R h) : HCalls Try.prog 6 #[g_] h R := by
  have e : hw (opF Try.prog T 97) (drawF Try.prog T 97) 97 [] (Try.f6.body.getD .skip) (postF T [.tmp 2] R) (tm0 [g_]) h = F6 g_ R h := by kernel_rfl
  exact hcalls (args := [g_]) TOKT mixed Try.func6 (c := Try.f6.body.getD .skip) rfl Try.ntmps6 (rs := [.tmp 2]) rfl (by simp) (by rw [e]; exact H)
theorem en6 : entersB Try.prog 6 := ⟨_, Try.func6, by kernel_rfl, by kernel_rfl⟩

/-- compass/compasslaw17.BlossomProved -/
def F12 (g_ left_ : Value) (R : Ending → Heap → Prop) (h : Heap) : Prop :=
 ∀ r, Heap.fresh h r →
 CALL Try.prog 22 #[] (Heap.new h r (Value.cells g_) 25) (fun v13 h_1 =>
 PV (unV .not v13) fun v14 =>
 (ifV v14
 (R (.returned (Value.bool false)) h_1)
 (PV (ldV T 25 (Value.pointer (some ⟨r, 0, none⟩)) h_1) fun v16 =>
 CALL Try.prog 23 #[v16] h_1 (fun v17 h_2 =>
 PV (extV v17 0) fun v18 =>
 PV (extV v17 1) fun v19 =>
 PV (extV v17 2) fun v20 =>
 PV (binV T .neq 27 v20 (Value.int .i64 0)) fun v22 =>
 (ifV v22
 (PV (lenV T 26 v18) fun v24 =>
 PV (binV T .eql 3 v24 (Value.int .i64 0)) fun v25 =>
 (ifV v25
 (PV (lenV T 26 v19) fun v28 =>
 PV (binV T .eql 3 v28 (Value.int .i64 0)) fun v29 =>
 R (.returned v29) h_2)
 (R (.returned (Value.bool false)) h_2)))
 (PV (ldV T 25 (Value.pointer (some ⟨r, 0, none⟩)) h_2) fun v32 =>
 CALL Try.prog 24 #[v32, v18, v19] h_2 (fun v35 h_3 =>
 PV (extV v35 0) fun v36 =>
 PV (extV v35 1) fun v37 =>
 JN (fun (a57 : Value) (h_4 : Heap) =>
 (ifV a57
 (R (.returned (Value.bool false)) h_4)
 (PV (ldV T 25 (Value.pointer (some ⟨r, 0, none⟩)) h_4) fun v59 =>
 CALL Try.prog 16 #[v59, left_, (Value.int .i64 1)] h_4 (fun v61 h_5 =>
 PV (extV v61 0) fun v62 =>
 PV (extV v61 1) fun v63 =>
 PV (extV v61 2) fun v64 =>
 PV (binV T .neq 27 v64 (Value.int .i64 0)) fun v66 =>
 (ifV v66
 (R (.returned (Value.bool true)) h_5)
 (PV (lenV T 26 v62) fun v69 =>
 PV (binV T .eql 3 v69 v36) fun v71 =>
 R (.returned v71) h_5))) (fun ch h_5 => R (.panicked ch) h_5)))) fun J =>
 PV (binV T .neq 27 v37 (Value.int .i64 0)) fun v39 =>
 (ifV v39
 (J (Value.bool true) h_3)
 (PV (lenV T 26 v18) fun v43 =>
 PV (binV T .neq 3 v36 v43) fun v44 =>
 (ifV v44
 (J (Value.bool true) h_3)
 (PV (ldV T 25 (Value.pointer (some ⟨r, 0, none⟩)) h_3) fun v47 =>
 CALL Try.prog 33 #[v47, v19] h_3 (fun v49 h_4 =>
 Le h_3 h_4 ∧ (Cons h_4 → PV (binV T .eql 27 v49 (Value.int .i64 0)) fun v50 =>
 PV (binV T .mul 3 (Value.int .i64 2) v36) fun v52 =>
 PV (fldV T 25 (Value.pointer (some ⟨r, 0, none⟩)) 0) fun v53 =>
 PV (ldV T 3 v53 h_3) fun v54 =>
 PV (binV T .lss 3 v52 v54) fun v55 =>
 PV (binV T .neq 4 v50 v55) fun v56 =>
 J v56 h_4)) (fun ch h_4 => False)))))) (fun ch h_3 => R (.panicked ch) h_3)))) (fun ch h_2 => R (.panicked ch) h_2)))) (fun ch h_1 => R (.panicked ch) h_1)

theorem H12 {g_ left_ : Value} {R : Ending → Heap → Prop} {h : Heap} (H : F12 g_ left_ R h) : HCalls Try.prog 12 #[g_, left_] h R := by
  have e : hw (opF Try.prog T 73) (drawF Try.prog T 73) 73 [] (Try.f12.body.getD .skip) (postF T [.tmp 4] R) (tm0 [g_, left_]) h = F12 g_ left_ R h := by kernel_rfl
  exact hcalls (args := [g_, left_]) TOKT mixed Try.func12 (c := Try.f12.body.getD .skip) rfl Try.ntmps12 (rs := [.tmp 4]) rfl (by simp) (by rw [e]; exact H)
theorem en12 : entersB Try.prog 12 := ⟨_, Try.func12, by kernel_rfl, by kernel_rfl⟩

end Go.Proofs.Ythchjolcjicpgaa
