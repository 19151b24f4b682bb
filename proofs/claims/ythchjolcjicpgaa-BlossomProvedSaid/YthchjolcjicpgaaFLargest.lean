/- MADE BY gen.py: what is asked so that a function's call does what is said, in the order of its text; each held against the loaded code by the kernel. -/
import Derived.Test.YthchjolcjicpgaaTab
namespace Go.Proofs.Ythchjolcjicpgaa
open Go.HW

/-- compass/vouch.odd -/
def F62 (g_ without_ : Value) (R : Ending → Heap → Prop) (h : Heap) : Prop :=
 ∀ r, Heap.fresh h r →
 PV (fldV T 25 (Value.pointer (some ⟨r, 0, none⟩)) 0) fun v14 =>
 PV (ldV T 3 v14 (Heap.new h r (Value.cells g_) 25)) fun v15 =>
 alF (msV T 77 v15 v15) (Heap.new h r (Value.cells g_) 25) fun v16 h_1 =>
 PV (fldV T 25 (Value.pointer (some ⟨r, 0, none⟩)) 1) fun v17 =>
 PV (ldV T 23 v17 h_1) fun v18 =>
 PV (lenV T 23 v18) fun v19 =>
 ∃ I : Nat → List Value → Heap → Prop, (∃ m, I m [(Value.int .i64 0)] h_1) ∧
 ∀ m (X : Tm) h_2, I m [X 20] h_2 →
 PV (binV T .lss 3 (X 20) v19) fun v21 =>
 (ifV v21
 (PV (ixV T 23 v18 (X 20)) fun v22 =>
 PV (ldV T 40 v22 h_2) fun v23 =>
 ∀ r_1, Heap.fresh h_2 r_1 →
 PV (stV T 40 (Value.pointer (some ⟨r_1, 0, none⟩)) v23 (Heap.new h_2 r_1 #[(Value.int .i64 0), (Value.int .i64 0), (Value.int .i64 0), (Value.int .i64 0)] 40)) fun h_3 =>
 JN (fun (a37 : Value) (h_4 : Heap) =>
 (ifV a37
 (PV (fldV T 40 (Value.pointer (some ⟨r_1, 0, none⟩)) 0) fun v39 =>
 PV (ldV T 3 v39 h_4) fun v40 =>
 PV (fldV T 40 (Value.pointer (some ⟨r_1, 0, none⟩)) 0) fun v42 =>
 PV (ldV T 3 v42 h_4) fun v43 =>
 PV (ixV T 77 v16 v43) fun v44 =>
 PV (ldV T 26 v44 h_4) fun v45 =>
 PV (fldV T 40 (Value.pointer (some ⟨r_1, 0, none⟩)) 1) fun v46 =>
 PV (ldV T 3 v46 h_4) fun v47 =>
 alF (bsV T 26 1 #[(0, v47)]) h_4 fun v48 h_5 =>
 (26 = 26) ∧ AP T 26 v45 v48 (fun v49 h_6 =>
 Le h_5 h_6 ∧ (Cons h_6 → PV (ixV T 77 v16 v40) fun v50 =>
 PV (stV T 26 v50 v49 h_6) fun h_7 =>
 Cons h_7 → PV (fldV T 40 (Value.pointer (some ⟨r_1, 0, none⟩)) 1) fun v52 =>
 PV (ldV T 3 v52 h_7) fun v53 =>
 PV (fldV T 40 (Value.pointer (some ⟨r_1, 0, none⟩)) 1) fun v55 =>
 PV (ldV T 3 v55 h_7) fun v56 =>
 PV (ixV T 77 v16 v56) fun v57 =>
 PV (ldV T 26 v57 h_7) fun v58 =>
 PV (fldV T 40 (Value.pointer (some ⟨r_1, 0, none⟩)) 0) fun v59 =>
 PV (ldV T 3 v59 h_7) fun v60 =>
 alF (bsV T 26 1 #[(0, v60)]) h_7 fun v61 h_8 =>
 (26 = 26) ∧ AP T 26 v58 v61 (fun v62 h_9 =>
 Le h_8 h_9 ∧ (Cons h_9 → PV (ixV T 77 v16 v53) fun v63 =>
 PV (stV T 26 v63 v62 h_9) fun h_10 =>
 Cons h_10 → PV (binV T .add 3 (X 20) (Value.int .i64 1)) fun v64 =>
 ∃ m', m' < m ∧ I m' [v64] h_10)) h_8)) h_5)
 (PV (binV T .add 3 (X 20) (Value.int .i64 1)) fun v64 =>
 ∃ m', m' < m ∧ I m' [v64] h_4))) fun J =>
 PV (fldV T 40 (Value.pointer (some ⟨r_1, 0, none⟩)) 0) fun v25 =>
 PV (ldV T 3 v25 h_3) fun v26 =>
 PV (ixV T 74 without_ v26) fun v27 =>
 PV (ldV T 4 v27 h_3) fun v28 =>
 PV (unV .not v28) fun v29 =>
 (ifV v29
 (PV (fldV T 40 (Value.pointer (some ⟨r_1, 0, none⟩)) 1) fun v32 =>
 PV (ldV T 3 v32 h_3) fun v33 =>
 PV (ixV T 74 without_ v33) fun v34 =>
 PV (ldV T 4 v34 h_3) fun v35 =>
 PV (unV .not v35) fun v36 =>
 J v36 h_3)
 (J (Value.bool false) h_3)))
 (PV (fldV T 25 (Value.pointer (some ⟨r, 0, none⟩)) 0) fun v65 =>
 PV (ldV T 3 v65 h_2) fun v66 =>
 alF (msV T 74 v66 v66) h_2 fun v67 h_3 =>
 CP T 74 v67 without_ (fun v70 h_4 =>
 PV (fldV T 25 (Value.pointer (some ⟨r, 0, none⟩)) 0) fun v71 =>
 PV (ldV T 3 v71 h_4) fun v72 =>
 ∃ I_1 : Nat → List Value → Heap → Prop, (∃ m_1, I_1 m_1 [(Value.int .i64 0), (Value.int .i64 0), undef, undef] h_4) ∧
 ∀ m_1 (X_1 : Tm) h_5, I_1 m_1 [X_1 73, X_1 9, X_1 11, X_1 12] h_5 →
 PV (binV T .lss 3 (X_1 73) v72) fun v74 =>
 (ifV v74
 (alF (bsV T 26 1 #[(0, (X_1 73))]) h_5 fun v77 h_6 =>
 ∃ I_2 : Nat → List Value → Heap → Prop, (∃ m_2, I_2 m_2 [v77, (Value.int .i64 0)] h_6) ∧
 ∀ m_2 (X_2 : Tm) h_7, I_2 m_2 [X_2 12, X_2 11] h_7 →
 PV (lenV T 26 (X_2 12)) fun v79 =>
 PV (binV T .gtr 3 v79 (Value.int .i64 0)) fun v80 =>
 (ifV v80
 (PV (lenV T 26 (X_2 12)) fun v83 =>
 PV (binV T .sub 3 v83 (Value.int .i64 1)) fun v84 =>
 PV (ixV T 26 (X_2 12) v84) fun v85 =>
 PV (ldV T 3 v85 h_7) fun v86 =>
 PV (lenV T 26 (X_2 12)) fun v89 =>
 PV (binV T .sub 3 v89 (Value.int .i64 1)) fun v90 =>
 PV (slV T 26 (X_2 12) none (some v90) none) fun v91 =>
 PV (ixV T 74 v67 v86) fun v94 =>
 PV (ldV T 4 v94 h_7) fun v95 =>
 PV (unV .not v95) fun v96 =>
 (ifV v96
 (PV (ixV T 74 v67 v86) fun v99 =>
 PV (stV T 4 v99 (Value.bool true) h_7) fun h_8 =>
 PV (binV T .add 3 (X_2 11) (Value.int .i64 1)) fun v101 =>
 PV (ixV T 77 v16 v86) fun v105 =>
 PV (ldV T 26 v105 h_8) fun v106 =>
 (26 = 26) ∧ AP T 26 v91 v106 (fun v107 h_9 =>
 ∃ m'_2, m'_2 < m_2 ∧ I_2 m'_2 [v107, v101] h_9) h_8)
 (∃ m'_2, m'_2 < m_2 ∧ I_2 m'_2 [v91, (X_2 11)] h_7)))
 (PV (binV T .and 3 (X_2 11) (Value.int .i64 1)) fun v110 =>
 PV (binV T .add 3 (X_1 9) v110) fun v111 =>
 PV (binV T .add 3 (X_1 73) (Value.int .i64 1)) fun v112 =>
 ∃ m'_1, m'_1 < m_1 ∧ I_1 m'_1 [v112, v111, (X_2 11), (X_2 12)] h_7)))
 (R (.returned (X_1 9)) h_5))) h_3))

theorem H62 {g_ without_ : Value} {R : Ending → Heap → Prop} {h : Heap} (H : F62 g_ without_ R h) : HCalls Try.prog 62 #[g_, without_] h R := by
  have e : hw (opF Try.prog T 114) (drawF Try.prog T 114) 114 [9, 11, 12] (Try.f62.body.getD .skip) (postF T [.tmp 4] R) (tm0 [g_, without_]) h = F62 g_ without_ R h := by kernel_rfl
  exact hcalls (args := [g_, without_]) TOKT mixed Try.func62 (c := Try.f62.body.getD .skip) rfl Try.ntmps62 (rs := [.tmp 4]) rfl (by simp) (by rw [e]; exact H)
theorem en62 : entersB Try.prog 62 := ⟨_, Try.func62, by kernel_rfl, by kernel_rfl⟩

/-- compass/vouch.Largest$1 -/
def F61 (p0_ p1_ p2_ p3_ : Value) (R : Ending → Heap → Prop) (h : Heap) : Prop :=
 PV (ldV T 25 p0_ h) fun v4 =>
 CALL Try.prog 47 #[v4] h (fun v5 h_1 =>
 PV (ldV T 25 p0_ h_1) fun v6 =>
 PV (ldV T 26 p1_ h_1) fun v7 =>
 CALL Try.prog 48 #[v6, v7, (Value.func (.func 49) #[] #[])] h_1 (fun v8 h_2 =>
 PV (ldV T 26 p1_ h_2) fun v9 =>
 PV (lenV T 26 v9) fun v10 =>
 PV (binV T .mul 3 (Value.int .i64 2) v10) fun v11 =>
 PV (fldV T 25 p0_ 0) fun v12 =>
 PV (ldV T 3 v12 h_2) fun v13 =>
 PV (ldV T 26 p2_ h_2) fun v14 =>
 PV (lenV T 26 v14) fun v15 =>
 PV (binV T .add 3 v13 v15) fun v16 =>
 PV (ldV T 25 p0_ h_2) fun v17 =>
 PV (ldV T 26 p2_ h_2) fun v18 =>
 PV (fldV T 25 p0_ 0) fun v19 =>
 PV (ldV T 3 v19 h_2) fun v20 =>
 CALL Try.prog 50 #[v18, v20] h_2 (fun v21 h_3 =>
 Le h_2 h_3 ∧ (Cons h_3 → CALL Try.prog 62 #[v17, v21] h_3 (fun v22 h_4 =>
 Le h_3 h_4 ∧ (Cons h_4 → PV (binV T .sub 3 v16 v22) fun v23 =>
 PV (binV T .eql 3 v11 v23) fun v24 =>
 CALL Try.prog 51 #[v24, (Value.int .i64 221)] h_4 (fun v25 h_5 =>
 Cons h_5 → PV (ldV T 26 p1_ h_5) fun v26 =>
 PV (lenV T 26 v26) fun v27 =>
 PV (stV T 3 p3_ v27 h_5) fun h_6 =>
 R (.returned (Value.tuple #[])) h_6) (fun ch h_5 => R (.panicked ch) h_5))) (fun ch h_4 => False))) (fun ch h_3 => False)) (fun ch h_2 => R (.panicked ch) h_2)) (fun ch h_1 => R (.panicked ch) h_1)

theorem H61 {p0_ p1_ p2_ p3_ : Value} {R : Ending → Heap → Prop} {h : Heap} (H : F61 p0_ p1_ p2_ p3_ R h) : HCalls Try.prog 61 #[p0_, p1_, p2_, p3_] h R := by
  have e : hw (opF Try.prog T 28) (drawF Try.prog T 28) 28 [] (Try.f61.body.getD .skip) (postF T [] R) (tm0 [p0_, p1_, p2_, p3_]) h = F61 p0_ p1_ p2_ p3_ R h := by kernel_rfl
  exact hcalls (args := [p0_, p1_, p2_, p3_]) TOKT mixed Try.func61 (c := Try.f61.body.getD .skip) rfl Try.ntmps61 (rs := []) rfl (by simp) (by rw [e]; exact H)
theorem en61 : entersB Try.prog 61 := ⟨_, Try.func61, by kernel_rfl, by kernel_rfl⟩

/-- compass/vouch.Largest -/
def F24 (g_ m_ set_ : Value) (R : Ending → Heap → Prop) (h : Heap) : Prop :=
 ∀ r, Heap.fresh h r →
 ∀ r_1, Heap.fresh (Heap.new h r (Value.cells g_) 25) r_1 →
 ∀ r_2, Heap.fresh (Heap.new (Heap.new h r (Value.cells g_) 25) r_1 (Value.cells m_) 26) r_2 →
 ∀ r_3, Heap.fresh (Heap.new (Heap.new (Heap.new h r (Value.cells g_) 25) r_1 (Value.cells m_) 26) r_2 (Value.cells set_) 26) r_3 →
 PV (stV T 3 (Value.pointer (some ⟨r_3, 0, none⟩)) (Value.int .i64 0) (Heap.new (Heap.new (Heap.new (Heap.new h r (Value.cells g_) 25) r_1 (Value.cells m_) 26) r_2 (Value.cells set_) 26) r_3 #[(Value.int .i64 0)] 3)) fun h_1 =>
 CALL Try.prog 45 #[(Value.func (.func 61) #[] #[(Value.pointer (some ⟨r, 0, none⟩)), (Value.pointer (some ⟨r_1, 0, none⟩)), (Value.pointer (some ⟨r_2, 0, none⟩)), (Value.pointer (some ⟨r_3, 0, none⟩))])] h_1 (fun v11 h_2 =>
 PV (ldV T 3 (Value.pointer (some ⟨r_3, 0, none⟩)) h_2) fun v12 =>
 R (.returned (Value.tuple #[v12, v11])) h_2) (fun ch h_2 => R (.panicked ch) h_2)

theorem H24 {g_ m_ set_ : Value} {R : Ending → Heap → Prop} {h : Heap} (H : F24 g_ m_ set_ R h) : HCalls Try.prog 24 #[g_, m_, set_] h R := by
  have e : hw (opF Try.prog T 14) (drawF Try.prog T 14) 14 [] (Try.f24.body.getD .skip) (postF T [.tmp 6, .tmp 7] R) (tm0 [g_, m_, set_]) h = F24 g_ m_ set_ R h := by kernel_rfl
  exact hcalls (args := [g_, m_, set_]) TOKT mixed Try.func24 (c := Try.f24.body.getD .skip) rfl Try.ntmps24 (rs := [.tmp 6, .tmp 7]) rfl (by simp) (by rw [e]; exact H)
theorem en24 : entersB Try.prog 24 := ⟨_, Try.func24, by kernel_rfl, by kernel_rfl⟩

/-- compass/vouch.NoPerfect$1 -/
def F73 (p0_ p1_ : Value) (R : Ending → Heap → Prop) (h : Heap) : Prop :=
 PV (ldV T 25 p0_ h) fun v2 =>
 CALL Try.prog 47 #[v2] h (fun v3 h_1 =>
 PV (ldV T 25 p0_ h_1) fun v4 =>
 PV (ldV T 26 p1_ h_1) fun v5 =>
 PV (fldV T 25 p0_ 0) fun v6 =>
 PV (ldV T 3 v6 h_1) fun v7 =>
 CALL Try.prog 50 #[v5, v7] h_1 (fun v8 h_2 =>
 Le h_1 h_2 ∧ (Cons h_2 → CALL Try.prog 62 #[v4, v8] h_2 (fun v9 h_3 =>
 Le h_2 h_3 ∧ (Cons h_3 → PV (ldV T 26 p1_ h_1) fun v10 =>
 PV (lenV T 26 v10) fun v11 =>
 PV (binV T .gtr 3 v9 v11) fun v12 =>
 CALL Try.prog 51 #[v12, (Value.int .i64 221)] h_3 (fun v13 h_4 =>
 Cons h_4 → R (.returned (Value.tuple #[])) h_4) (fun ch h_4 => R (.panicked ch) h_4))) (fun ch h_3 => False))) (fun ch h_2 => False)) (fun ch h_1 => R (.panicked ch) h_1)

theorem H73 {p0_ p1_ : Value} {R : Ending → Heap → Prop} {h : Heap} (H : F73 p0_ p1_ R h) : HCalls Try.prog 73 #[p0_, p1_] h R := by
  have e : hw (opF Try.prog T 14) (drawF Try.prog T 14) 14 [] (Try.f73.body.getD .skip) (postF T [] R) (tm0 [p0_, p1_]) h = F73 p0_ p1_ R h := by kernel_rfl
  exact hcalls (args := [p0_, p1_]) TOKT mixed Try.func73 (c := Try.f73.body.getD .skip) rfl Try.ntmps73 (rs := []) rfl (by simp) (by rw [e]; exact H)
theorem en73 : entersB Try.prog 73 := ⟨_, Try.func73, by kernel_rfl, by kernel_rfl⟩

/-- compass/vouch.NoPerfect -/
def F33 (g_ set_ : Value) (R : Ending → Heap → Prop) (h : Heap) : Prop :=
 ∀ r, Heap.fresh h r →
 ∀ r_1, Heap.fresh (Heap.new h r (Value.cells g_) 25) r_1 →
 CALL Try.prog 45 #[(Value.func (.func 73) #[] #[(Value.pointer (some ⟨r, 0, none⟩)), (Value.pointer (some ⟨r_1, 0, none⟩))])] (Heap.new (Heap.new h r (Value.cells g_) 25) r_1 (Value.cells set_) 26) (fun v6 h_1 =>
 R (.returned v6) h_1) (fun ch h_1 => R (.panicked ch) h_1)

theorem H33 {g_ set_ : Value} {R : Ending → Heap → Prop} {h : Heap} (H : F33 g_ set_ R h) : HCalls Try.prog 33 #[g_, set_] h R := by
  have e : hw (opF Try.prog T 7) (drawF Try.prog T 7) 7 [] (Try.f33.body.getD .skip) (postF T [.tmp 4] R) (tm0 [g_, set_]) h = F33 g_ set_ R h := by kernel_rfl
  exact hcalls (args := [g_, set_]) TOKT mixed Try.func33 (c := Try.f33.body.getD .skip) rfl Try.ntmps33 (rs := [.tmp 4]) rfl (by simp) (by rw [e]; exact H)
theorem en33 : entersB Try.prog 33 := ⟨_, Try.func33, by kernel_rfl, by kernel_rfl⟩

end Go.Proofs.Ythchjolcjicpgaa
