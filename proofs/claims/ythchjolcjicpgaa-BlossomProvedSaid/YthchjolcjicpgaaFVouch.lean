/- MADE BY gen.py: what is asked so that a function's call does what is said, in the order of its text; each held against the loaded code by the kernel. -/
import Derived.Test.YthchjolcjicpgaaTab
namespace Go.Proofs.Ythchjolcjicpgaa
open Go.HW

/-- compass/vouch.need -/
def F51 (ok_ code_ : Value) (R : Ending → Heap → Prop) (h : Heap) : Prop :=
 PV (unV .not ok_) fun v5 =>
 (ifV v5
 (PV (buildV T 135 #[(0, code_)]) fun v7 =>
 PV (mkiV T 135 v7) fun v8 =>
 (match v8 with | .iface t v => R (.panicked [{ v := Value.iface t v, recovered := false }]) h | _ => False))
 (R (.returned (Value.tuple #[])) h))

theorem H51 {ok_ code_ : Value} {R : Ending → Heap → Prop} {h : Heap} (H : F51 ok_ code_ R h) : HCalls Try.prog 51 #[ok_, code_] h R := by
  have e : hw (opF Try.prog T 9) (drawF Try.prog T 9) 9 [] (Try.f51.body.getD .skip) (postF T [] R) (tm0 [ok_, code_]) h = F51 ok_ code_ R h := by kernel_rfl
  exact hcalls (args := [ok_, code_]) TOKT mixed Try.func51 (c := Try.f51.body.getD .skip) rfl Try.ntmps51 (rs := []) rfl (by simp) (by rw [e]; exact H)
theorem en51 : entersB Try.prog 51 := ⟨_, Try.func51, by kernel_rfl, by kernel_rfl⟩

/-- compass/vouch.loop -/
def F52 (e_ : Value) (R : Ending → Heap → Prop) (h : Heap) : Prop :=
 ∀ r, Heap.fresh h r →
 PV (fldV T 40 (Value.pointer (some ⟨r, 0, none⟩)) 0) fun v3 =>
 PV (ldV T 3 v3 (Heap.new h r (Value.cells e_) 40)) fun v4 =>
 PV (fldV T 40 (Value.pointer (some ⟨r, 0, none⟩)) 1) fun v5 =>
 PV (ldV T 3 v5 (Heap.new h r (Value.cells e_) 40)) fun v6 =>
 PV (binV T .eql 3 v4 v6) fun v7 =>
 R (.returned v7) (Heap.new h r (Value.cells e_) 40)

theorem H52 {e_ : Value} {R : Ending → Heap → Prop} {h : Heap} (H : F52 e_ R h) : HCalls Try.prog 52 #[e_] h R := by
  have e : hw (opF Try.prog T 8) (drawF Try.prog T 8) 8 [] (Try.f52.body.getD .skip) (postF T [.tmp 2] R) (tm0 [e_]) h = F52 e_ R h := by kernel_rfl
  exact hcalls (args := [e_]) TOKT mixed Try.func52 (c := Try.f52.body.getD .skip) rfl Try.ntmps52 (rs := [.tmp 2]) rfl (by simp) (by rw [e]; exact H)
theorem en52 : entersB Try.prog 52 := ⟨_, Try.func52, by kernel_rfl, by kernel_rfl⟩

/-- compass/vouch.one -/
def F49 (p0_ : Value) (R : Ending → Heap → Prop) (h : Heap) : Prop :=
 R (.returned (Value.int .i64 1)) h

theorem H49 {p0_ : Value} {R : Ending → Heap → Prop} {h : Heap} (H : F49 p0_ R h) : HCalls Try.prog 49 #[p0_] h R := by
  have e : hw (opF Try.prog T 3) (drawF Try.prog T 3) 3 [] (Try.f49.body.getD .skip) (postF T [.tmp 2] R) (tm0 [p0_]) h = F49 p0_ R h := by kernel_rfl
  exact hcalls (args := [p0_]) TOKT mixed Try.func49 (c := Try.f49.body.getD .skip) rfl Try.ntmps49 (rs := [.tmp 2]) rfl (by simp) (by rw [e]; exact H)
theorem en49 : entersB Try.prog 49 := ⟨_, Try.func49, by kernel_rfl, by kernel_rfl⟩

/-- compass/vouch.right -/
def F47 (g_ : Value) (R : Ending → Heap → Prop) (h : Heap) : Prop :=
 ∀ r, Heap.fresh h r →
 PV (ldV T 25 (Value.pointer (some ⟨r, 0, none⟩)) (Heap.new h r (Value.cells g_) 25)) fun v3 =>
 CALL Try.prog 44 #[v3] (Heap.new h r (Value.cells g_) 25) (fun v4 h_1 =>
 ∀ r_1, Heap.fresh h_1 r_1 →
 PV (stV T 31 (Value.pointer (some ⟨r_1, 0, none⟩)) v4 (Heap.new h_1 r_1 #[(Value.int .i64 0), (Value.int .i64 0)] 31)) fun h_2 =>
 PV (fldV T 31 (Value.pointer (some ⟨r_1, 0, none⟩)) 0) fun v5 =>
 PV (ldV T 27 v5 h_2) fun v6 =>
 PV (binV T .eql 27 v6 (Value.int .i64 0)) fun v7 =>
 PV (fldV T 31 (Value.pointer (some ⟨r_1, 0, none⟩)) 0) fun v8 =>
 PV (ldV T 27 v8 h_2) fun v9 =>
 CALL Try.prog 51 #[v7, v9] h_2 (fun v10 h_3 =>
 R (.returned (Value.tuple #[])) h_3) (fun ch h_3 => R (.panicked ch) h_3)) (fun ch h_1 => R (.panicked ch) h_1)

theorem H47 {g_ : Value} {R : Ending → Heap → Prop} {h : Heap} (H : F47 g_ R h) : HCalls Try.prog 47 #[g_] h R := by
  have e : hw (opF Try.prog T 11) (drawF Try.prog T 11) 11 [] (Try.f47.body.getD .skip) (postF T [] R) (tm0 [g_]) h = F47 g_ R h := by kernel_rfl
  exact hcalls (args := [g_]) TOKT mixed Try.func47 (c := Try.f47.body.getD .skip) rfl Try.ntmps47 (rs := []) rfl (by simp) (by rw [e]; exact H)
theorem en47 : entersB Try.prog 47 := ⟨_, Try.func47, by kernel_rfl, by kernel_rfl⟩

/-- compass/vouch.rising -/
def F89 (list_ n_ : Value) (R : Ending → Heap → Prop) (h : Heap) : Prop :=
 PV (lenV T 26 list_) fun v8 =>
 ∃ I : Nat → List Value → Heap → Prop, (∃ m, I m [(Value.int .i64 0), (Value.int .i64 (-1))] h) ∧
 ∀ m (X : Tm) h_1, I m [X 9, X 4] h_1 →
 PV (binV T .lss 3 (X 9) v8) fun v10 =>
 (ifV v10
 (PV (ixV T 26 list_ (X 9)) fun v11 =>
 PV (ldV T 3 v11 h_1) fun v12 =>
 PV (binV T .gtr 3 v12 (X 4)) fun v15 =>
 (ifV v15
 (PV (binV T .lss 3 v12 n_) fun v19 =>
 CALL Try.prog 51 #[v19, (Value.int .i64 221)] h_1 (fun v21 h_2 =>
 PV (binV T .add 3 (X 9) (Value.int .i64 1)) fun v23 =>
 ∃ m', m' < m ∧ I m' [v23, v12] h_2) (fun ch h_2 => R (.panicked ch) h_2))
 (CALL Try.prog 51 #[(Value.bool false), (Value.int .i64 221)] h_1 (fun v21 h_2 =>
 PV (binV T .add 3 (X 9) (Value.int .i64 1)) fun v23 =>
 ∃ m', m' < m ∧ I m' [v23, v12] h_2) (fun ch h_2 => R (.panicked ch) h_2))))
 (R (.returned (Value.tuple #[])) h_1))

theorem H89 {list_ n_ : Value} {R : Ending → Heap → Prop} {h : Heap} (H : F89 list_ n_ R h) : HCalls Try.prog 89 #[list_, n_] h R := by
  have e : hw (opF Try.prog T 24) (drawF Try.prog T 24) 24 [4] (Try.f89.body.getD .skip) (postF T [] R) (tm0 [list_, n_]) h = F89 list_ n_ R h := by kernel_rfl
  exact hcalls (args := [list_, n_]) TOKT mixed Try.func89 (c := Try.f89.body.getD .skip) rfl Try.ntmps89 (rs := []) rfl (by simp) (by rw [e]; exact H)
theorem en89 : entersB Try.prog 89 := ⟨_, Try.func89, by kernel_rfl, by kernel_rfl⟩

/-- compass/vouch.marked -/
def F50 (list_ n_ : Value) (R : Ending → Heap → Prop) (h : Heap) : Prop :=
 CALL Try.prog 89 #[list_, n_] h (fun v10 h_1 =>
 alF (msV T 74 n_ n_) h_1 fun v12 h_2 =>
 PV (lenV T 26 list_) fun v14 =>
 ∃ I : Nat → List Value → Heap → Prop, (∃ m, I m [(Value.int .i64 0)] h_2) ∧
 ∀ m (X : Tm) h_3, I m [X 15] h_3 →
 PV (binV T .lss 3 (X 15) v14) fun v16 =>
 (ifV v16
 (PV (ixV T 26 list_ (X 15)) fun v17 =>
 PV (ldV T 3 v17 h_3) fun v18 =>
 PV (ixV T 74 v12 v18) fun v21 =>
 PV (stV T 4 v21 (Value.bool true) h_3) fun h_4 =>
 PV (binV T .add 3 (X 15) (Value.int .i64 1)) fun v22 =>
 ∃ m', m' < m ∧ I m' [v22] h_4)
 (R (.returned v12) h_3))) (fun ch h_1 => R (.panicked ch) h_1)

theorem H50 {list_ n_ : Value} {R : Ending → Heap → Prop} {h : Heap} (H : F50 list_ n_ R h) : HCalls Try.prog 50 #[list_, n_] h R := by
  have e : hw (opF Try.prog T 24) (drawF Try.prog T 24) 24 [] (Try.f50.body.getD .skip) (postF T [.tmp 4] R) (tm0 [list_, n_]) h = F50 list_ n_ R h := by kernel_rfl
  exact hcalls (args := [list_, n_]) TOKT mixed Try.func50 (c := Try.f50.body.getD .skip) rfl Try.ntmps50 (rs := [.tmp 4]) rfl (by simp) (by rw [e]; exact H)
theorem en50 : entersB Try.prog 50 := ⟨_, Try.func50, by kernel_rfl, by kernel_rfl⟩

/-- compass/vouch.matched -/
def F48 (g_ m_ most_ : Value) (R : Ending → Heap → Prop) (h : Heap) : Prop :=
 ∀ r, Heap.fresh h r →
 PV (fldV T 25 (Value.pointer (some ⟨r, 0, none⟩)) 1) fun v13 =>
 PV (ldV T 23 v13 (Heap.new h r (Value.cells g_) 25)) fun v14 =>
 PV (lenV T 23 v14) fun v15 =>
 CALL Try.prog 89 #[m_, v15] (Heap.new h r (Value.cells g_) 25) (fun v16 h_1 =>
 PV (fldV T 25 (Value.pointer (some ⟨r, 0, none⟩)) 0) fun v17 =>
 PV (ldV T 3 v17 h_1) fun v18 =>
 alF (msV T 26 v18 v18) h_1 fun v19 h_2 =>
 PV (lenV T 26 m_) fun v21 =>
 ∃ I : Nat → List Value → Heap → Prop, (∃ m, I m [(Value.int .i64 0)] h_2) ∧
 ∀ m (X : Tm) h_3, I m [X 22] h_3 →
 PV (binV T .lss 3 (X 22) v21) fun v23 =>
 (ifV v23
 (PV (ixV T 26 m_ (X 22)) fun v24 =>
 PV (ldV T 3 v24 h_3) fun v25 =>
 PV (fldV T 25 (Value.pointer (some ⟨r, 0, none⟩)) 1) fun v26 =>
 PV (ldV T 23 v26 h_3) fun v27 =>
 PV (ixV T 23 v27 v25) fun v29 =>
 PV (ldV T 40 v29 h_3) fun v30 =>
 ∀ r_1, Heap.fresh h_3 r_1 →
 PV (stV T 40 (Value.pointer (some ⟨r_1, 0, none⟩)) v30 (Heap.new h_3 r_1 #[(Value.int .i64 0), (Value.int .i64 0), (Value.int .i64 0), (Value.int .i64 0)] 40)) fun h_4 =>
 PV (ldV T 40 (Value.pointer (some ⟨r_1, 0, none⟩)) h_4) fun v31 =>
 CALL Try.prog 52 #[v31] h_4 (fun v32 h_5 =>
 PV (unV .not v32) fun v33 =>
 CALL Try.prog 51 #[v33, (Value.int .i64 221)] h_5 (fun v34 h_6 =>
 PV (fldV T 40 (Value.pointer (some ⟨r_1, 0, none⟩)) 0) fun v35 =>
 PV (ldV T 3 v35 h_6) fun v36 =>
 PV (fldV T 40 (Value.pointer (some ⟨r_1, 0, none⟩)) 1) fun v37 =>
 PV (ldV T 3 v37 h_6) fun v38 =>
 PV (buildV T 138 #[(0, v36), (1, v38)]) fun v39 =>
 ∃ I_1 : Nat → List Value → Heap → Prop, (∃ m_1, I_1 m_1 [(Value.int .i64 0)] h_6) ∧
 ∀ m_1 (X_1 : Tm) h_7, I_1 m_1 [X_1 40] h_7 →
 PV (binV T .lss 3 (X_1 40) (Value.int .i64 2)) fun v41 =>
 (ifV v41
 (PV (indexV T 138 v39 (X_1 40)) fun v42 =>
 PV (ixV T 26 v19 v42) fun v45 =>
 PV (ldV T 3 v45 h_7) fun v46 =>
 PV (binV T .add 3 v46 (Value.int .i64 1)) fun v47 =>
 PV (ixV T 26 v19 v42) fun v48 =>
 PV (stV T 3 v48 v47 h_7) fun h_8 =>
 PV (ixV T 26 v19 v42) fun v51 =>
 PV (ldV T 3 v51 h_8) fun v52 =>
 CL Try.prog most_ #[v42] (fun v55 h_9 =>
 Le h_8 h_9 ∧ (Cons h_9 → PV (binV T .leq 3 v52 v55) fun v56 =>
 CALL Try.prog 51 #[v56, (Value.int .i64 221)] h_9 (fun v57 h_10 =>
 Cons h_10 → PV (binV T .add 3 (X_1 40) (Value.int .i64 1)) fun v58 =>
 ∃ m'_1, m'_1 < m_1 ∧ I_1 m'_1 [v58] h_10) (fun ch h_10 => R (.panicked ch) h_10))) (fun ch h_9 => False) h_8)
 (PV (binV T .add 3 (X 22) (Value.int .i64 1)) fun v59 =>
 ∃ m', m' < m ∧ I m' [v59] h_7))) (fun ch h_6 => R (.panicked ch) h_6)) (fun ch h_5 => R (.panicked ch) h_5))
 (R (.returned (Value.tuple #[])) h_3))) (fun ch h_1 => R (.panicked ch) h_1)

theorem H48 {g_ m_ most_ : Value} {R : Ending → Heap → Prop} {h : Heap} (H : F48 g_ m_ most_ R h) : HCalls Try.prog 48 #[g_, m_, most_] h R := by
  have e : hw (opF Try.prog T 60) (drawF Try.prog T 60) 60 [] (Try.f48.body.getD .skip) (postF T [] R) (tm0 [g_, m_, most_]) h = F48 g_ m_ most_ R h := by kernel_rfl
  exact hcalls (args := [g_, m_, most_]) TOKT mixed Try.func48 (c := Try.f48.body.getD .skip) rfl Try.ntmps48 (rs := []) rfl (by simp) (by rw [e]; exact H)
theorem en48 : entersB Try.prog 48 := ⟨_, Try.func48, by kernel_rfl, by kernel_rfl⟩

/-- compass/vouch.Covered$1 -/
def F46 (p0_ p1_ p2_ p3_ : Value) (R : Ending → Heap → Prop) (h : Heap) : Prop :=
 PV (ldV T 25 p0_ h) fun v7 =>
 CALL Try.prog 47 #[v7] h (fun v8 h_1 =>
 PV (ldV T 25 p0_ h_1) fun v9 =>
 PV (ldV T 26 p1_ h_1) fun v10 =>
 CALL Try.prog 48 #[v9, v10, (Value.func (.func 49) #[] #[])] h_1 (fun v11 h_2 =>
 PV (ldV T 26 p2_ h_2) fun v12 =>
 PV (fldV T 25 p0_ 0) fun v13 =>
 PV (ldV T 3 v13 h_2) fun v14 =>
 CALL Try.prog 50 #[v12, v14] h_2 (fun v15 h_3 =>
 PV (fldV T 25 p0_ 1) fun v16 =>
 PV (ldV T 23 v16 h_3) fun v17 =>
 PV (lenV T 23 v17) fun v18 =>
 ∃ I : Nat → List Value → Heap → Prop, (∃ m, I m [(Value.int .i64 0)] h_3) ∧
 ∀ m (X : Tm) h_4, I m [X 19] h_4 →
 PV (binV T .lss 3 (X 19) v18) fun v20 =>
 (ifV v20
 (PV (ixV T 23 v17 (X 19)) fun v21 =>
 PV (ldV T 40 v21 h_4) fun v22 =>
 ∀ r, Heap.fresh h_4 r →
 PV (stV T 40 (Value.pointer (some ⟨r, 0, none⟩)) v22 (Heap.new h_4 r #[(Value.int .i64 0), (Value.int .i64 0), (Value.int .i64 0), (Value.int .i64 0)] 40)) fun h_5 =>
 PV (ldV T 40 (Value.pointer (some ⟨r, 0, none⟩)) h_5) fun v23 =>
 CALL Try.prog 52 #[v23] h_5 (fun v24 h_6 =>
 (ifV v24
 (CALL Try.prog 51 #[(Value.bool true), (Value.int .i64 221)] h_6 (fun v39 h_7 =>
 PV (binV T .add 3 (X 19) (Value.int .i64 1)) fun v40 =>
 ∃ m', m' < m ∧ I m' [v40] h_7) (fun ch h_7 => R (.panicked ch) h_7))
 (PV (fldV T 40 (Value.pointer (some ⟨r, 0, none⟩)) 0) fun v27 =>
 PV (ldV T 3 v27 h_6) fun v28 =>
 PV (ixV T 74 v15 v28) fun v29 =>
 PV (ldV T 4 v29 h_6) fun v30 =>
 (ifV v30
 (CALL Try.prog 51 #[(Value.bool true), (Value.int .i64 221)] h_6 (fun v39 h_7 =>
 PV (binV T .add 3 (X 19) (Value.int .i64 1)) fun v40 =>
 ∃ m', m' < m ∧ I m' [v40] h_7) (fun ch h_7 => R (.panicked ch) h_7))
 (PV (fldV T 40 (Value.pointer (some ⟨r, 0, none⟩)) 1) fun v34 =>
 PV (ldV T 3 v34 h_6) fun v35 =>
 PV (ixV T 74 v15 v35) fun v36 =>
 PV (ldV T 4 v36 h_6) fun v37 =>
 CALL Try.prog 51 #[v37, (Value.int .i64 221)] h_6 (fun v39 h_7 =>
 PV (binV T .add 3 (X 19) (Value.int .i64 1)) fun v40 =>
 ∃ m', m' < m ∧ I m' [v40] h_7) (fun ch h_7 => R (.panicked ch) h_7)))))) (fun ch h_6 => R (.panicked ch) h_6))
 (PV (ldV T 26 p1_ h_4) fun v41 =>
 PV (lenV T 26 v41) fun v42 =>
 PV (ldV T 26 p2_ h_4) fun v43 =>
 PV (lenV T 26 v43) fun v44 =>
 PV (binV T .eql 3 v42 v44) fun v45 =>
 CALL Try.prog 51 #[v45, (Value.int .i64 221)] h_4 (fun v46 h_5 =>
 PV (ldV T 26 p1_ h_5) fun v47 =>
 PV (lenV T 26 v47) fun v48 =>
 PV (stV T 3 p3_ v48 h_5) fun h_6 =>
 R (.returned (Value.tuple #[])) h_6) (fun ch h_5 => R (.panicked ch) h_5)))) (fun ch h_3 => R (.panicked ch) h_3)) (fun ch h_2 => R (.panicked ch) h_2)) (fun ch h_1 => R (.panicked ch) h_1)

theorem H46 {p0_ p1_ p2_ p3_ : Value} {R : Ending → Heap → Prop} {h : Heap} (H : F46 p0_ p1_ p2_ p3_ R h) : HCalls Try.prog 46 #[p0_, p1_, p2_, p3_] h R := by
  have e : hw (opF Try.prog T 49) (drawF Try.prog T 49) 49 [] (Try.f46.body.getD .skip) (postF T [] R) (tm0 [p0_, p1_, p2_, p3_]) h = F46 p0_ p1_ p2_ p3_ R h := by kernel_rfl
  exact hcalls (args := [p0_, p1_, p2_, p3_]) TOKT mixed Try.func46 (c := Try.f46.body.getD .skip) rfl Try.ntmps46 (rs := []) rfl (by simp) (by rw [e]; exact H)
theorem en46 : entersB Try.prog 46 := ⟨_, Try.func46, by kernel_rfl, by kernel_rfl⟩

/-- compass/vouch.Covered -/
def F19 (g_ m_ cover_ : Value) (R : Ending → Heap → Prop) (h : Heap) : Prop :=
 ∀ r, Heap.fresh h r →
 ∀ r_1, Heap.fresh (Heap.new h r (Value.cells g_) 25) r_1 →
 ∀ r_2, Heap.fresh (Heap.new (Heap.new h r (Value.cells g_) 25) r_1 (Value.cells m_) 26) r_2 →
 ∀ r_3, Heap.fresh (Heap.new (Heap.new (Heap.new h r (Value.cells g_) 25) r_1 (Value.cells m_) 26) r_2 (Value.cells cover_) 26) r_3 →
 PV (stV T 3 (Value.pointer (some ⟨r_3, 0, none⟩)) (Value.int .i64 0) (Heap.new (Heap.new (Heap.new (Heap.new h r (Value.cells g_) 25) r_1 (Value.cells m_) 26) r_2 (Value.cells cover_) 26) r_3 #[(Value.int .i64 0)] 3)) fun h_1 =>
 CALL Try.prog 45 #[(Value.func (.func 46) #[] #[(Value.pointer (some ⟨r, 0, none⟩)), (Value.pointer (some ⟨r_1, 0, none⟩)), (Value.pointer (some ⟨r_2, 0, none⟩)), (Value.pointer (some ⟨r_3, 0, none⟩))])] h_1 (fun v11 h_2 =>
 PV (ldV T 3 (Value.pointer (some ⟨r_3, 0, none⟩)) h_2) fun v12 =>
 R (.returned (Value.tuple #[v12, v11])) h_2) (fun ch h_2 => R (.panicked ch) h_2)

theorem H19 {g_ m_ cover_ : Value} {R : Ending → Heap → Prop} {h : Heap} (H : F19 g_ m_ cover_ R h) : HCalls Try.prog 19 #[g_, m_, cover_] h R := by
  have e : hw (opF Try.prog T 14) (drawF Try.prog T 14) 14 [] (Try.f19.body.getD .skip) (postF T [.tmp 6, .tmp 7] R) (tm0 [g_, m_, cover_]) h = F19 g_ m_ cover_ R h := by kernel_rfl
  exact hcalls (args := [g_, m_, cover_]) TOKT mixed Try.func19 (c := Try.f19.body.getD .skip) rfl Try.ntmps19 (rs := [.tmp 6, .tmp 7]) rfl (by simp) (by rw [e]; exact H)
theorem en19 : entersB Try.prog 19 := ⟨_, Try.func19, by kernel_rfl, by kernel_rfl⟩

/-- compass/compassref03.Copy -/
def F20 (g_ : Value) (R : Ending → Heap → Prop) (h : Heap) : Prop :=
 ∀ r, Heap.fresh h r →
 ∀ r_1, Heap.fresh (Heap.new h r (Value.cells g_) 25) r_1 →
 PV (fldV T 25 (Value.pointer (some ⟨r, 0, none⟩)) 0) fun v5 =>
 PV (ldV T 3 v5 (Heap.new (Heap.new h r (Value.cells g_) 25) r_1 #[(Value.int .i64 0), (Value.slice none 0 0)] 25)) fun v6 =>
 PV (buildV T 25 #[(0, v6)]) fun v7 =>
 ∀ r_2, Heap.fresh (Heap.new (Heap.new h r (Value.cells g_) 25) r_1 #[(Value.int .i64 0), (Value.slice none 0 0)] 25) r_2 →
 PV (stV T 25 (Value.pointer (some ⟨r_2, 0, none⟩)) v7 (Heap.new (Heap.new (Heap.new h r (Value.cells g_) 25) r_1 #[(Value.int .i64 0), (Value.slice none 0 0)] 25) r_2 #[(Value.int .i64 0), (Value.slice none 0 0)] 25)) fun h_1 =>
 ∃ I : Nat → List Value → Heap → Prop, (∃ m, I m [(Value.int .i64 0)] h_1) ∧
 ∀ m (X : Tm) h_2, I m [X 4] h_2 →
 PV (fldV T 25 (Value.pointer (some ⟨r, 0, none⟩)) 1) fun v9 =>
 PV (ldV T 23 v9 h_2) fun v10 =>
 PV (lenV T 23 v10) fun v11 =>
 PV (binV T .lss 3 (X 4) v11) fun v12 =>
 (ifV v12
 (PV (fldV T 25 (Value.pointer (some ⟨r_2, 0, none⟩)) 1) fun v15 =>
 PV (ldV T 23 v15 h_2) fun v16 =>
 PV (fldV T 25 (Value.pointer (some ⟨r, 0, none⟩)) 1) fun v17 =>
 PV (ldV T 23 v17 h_2) fun v18 =>
 PV (ixV T 23 v18 (X 4)) fun v20 =>
 PV (ldV T 40 v20 h_2) fun v21 =>
 alF (bsV T 23 1 #[(0, v21)]) h_2 fun v22 h_3 =>
 (23 = 23) ∧ AP T 23 v16 v22 (fun v23 h_4 =>
 Cons h_4 → PV (fldV T 25 (Value.pointer (some ⟨r_2, 0, none⟩)) 1) fun v24 =>
 PV (stV T 23 v24 v23 h_4) fun h_5 =>
 Cons h_5 → PV (binV T .add 3 (X 4) (Value.int .i64 1)) fun v14 =>
 ∃ m', m' < m ∧ I m' [v14] h_5) h_3)
 (PV (ldV T 25 (Value.pointer (some ⟨r_2, 0, none⟩)) h_2) fun v25 =>
 PV (stV T 25 (Value.pointer (some ⟨r_1, 0, none⟩)) v25 h_2) fun h_3 =>
 PV (ldV T 25 (Value.pointer (some ⟨r_1, 0, none⟩)) h_3) fun w2 =>
 R (.returned w2) h_3))

theorem H20 {g_ : Value} {R : Ending → Heap → Prop} {h : Heap} (H : F20 g_ R h) : HCalls Try.prog 20 #[g_] h R := by
  have e : hw (opF Try.prog T 26) (drawF Try.prog T 26) 26 [4] (Try.f20.body.getD .skip) (postF T [.cell 2 25] R) (tm0 [g_]) h = F20 g_ R h := by kernel_rfl
  exact hcalls (args := [g_]) TOKT mixed Try.func20 (c := Try.f20.body.getD .skip) rfl Try.ntmps20 (rs := [.cell 2 25]) rfl (by simp) (by rw [e]; exact H)
theorem en20 : entersB Try.prog 20 := ⟨_, Try.func20, by kernel_rfl, by kernel_rfl⟩

/-- compass/compassref03.Same -/
def F21 (a_ b_ : Value) (R : Ending → Heap → Prop) (h : Heap) : Prop :=
 ∀ r, Heap.fresh h r →
 ∀ r_1, Heap.fresh (Heap.new h r (Value.cells a_) 25) r_1 →
 JN (fun (a19 : Value) (h_1 : Heap) =>
 (ifV a19
 (R (.returned (Value.bool false)) h_1)
 (∃ I : Nat → List Value → Heap → Prop, (∃ m, I m [(Value.int .i64 0)] h_1) ∧
 ∀ m (X : Tm) h_2, I m [X 5] h_2 →
 PV (fldV T 25 (Value.pointer (some ⟨r, 0, none⟩)) 1) fun v21 =>
 PV (ldV T 23 v21 h_2) fun v22 =>
 PV (lenV T 23 v22) fun v23 =>
 PV (binV T .lss 3 (X 5) v23) fun v24 =>
 (ifV v24
 (PV (fldV T 25 (Value.pointer (some ⟨r, 0, none⟩)) 1) fun v27 =>
 PV (ldV T 23 v27 h_2) fun v28 =>
 PV (ixV T 23 v28 (X 5)) fun v30 =>
 PV (ldV T 40 v30 h_2) fun v31 =>
 PV (fldV T 25 (Value.pointer (some ⟨r_1, 0, none⟩)) 1) fun v32 =>
 PV (ldV T 23 v32 h_2) fun v33 =>
 PV (ixV T 23 v33 (X 5)) fun v35 =>
 PV (ldV T 40 v35 h_2) fun v36 =>
 PV (binV T .neq 40 v31 v36) fun v37 =>
 (ifV v37
 (R (.returned (Value.bool false)) h_2)
 (PV (binV T .add 3 (X 5) (Value.int .i64 1)) fun v26 =>
 ∃ m', m' < m ∧ I m' [v26] h_2)))
 (R (.returned (Value.bool true)) h_2))))) fun J =>
 PV (fldV T 25 (Value.pointer (some ⟨r, 0, none⟩)) 0) fun v6 =>
 PV (ldV T 3 v6 (Heap.new (Heap.new h r (Value.cells a_) 25) r_1 (Value.cells b_) 25)) fun v7 =>
 PV (fldV T 25 (Value.pointer (some ⟨r_1, 0, none⟩)) 0) fun v8 =>
 PV (ldV T 3 v8 (Heap.new (Heap.new h r (Value.cells a_) 25) r_1 (Value.cells b_) 25)) fun v9 =>
 PV (binV T .neq 3 v7 v9) fun v10 =>
 (ifV v10
 (J (Value.bool true) (Heap.new (Heap.new h r (Value.cells a_) 25) r_1 (Value.cells b_) 25))
 (PV (fldV T 25 (Value.pointer (some ⟨r, 0, none⟩)) 1) fun v12 =>
 PV (ldV T 23 v12 (Heap.new (Heap.new h r (Value.cells a_) 25) r_1 (Value.cells b_) 25)) fun v13 =>
 PV (lenV T 23 v13) fun v14 =>
 PV (fldV T 25 (Value.pointer (some ⟨r_1, 0, none⟩)) 1) fun v15 =>
 PV (ldV T 23 v15 (Heap.new (Heap.new h r (Value.cells a_) 25) r_1 (Value.cells b_) 25)) fun v16 =>
 PV (lenV T 23 v16) fun v17 =>
 PV (binV T .neq 3 v14 v17) fun v18 =>
 J v18 (Heap.new (Heap.new h r (Value.cells a_) 25) r_1 (Value.cells b_) 25)))

theorem H21 {a_ b_ : Value} {R : Ending → Heap → Prop} {h : Heap} (H : F21 a_ b_ R h) : HCalls Try.prog 21 #[a_, b_] h R := by
  have e : hw (opF Try.prog T 38) (drawF Try.prog T 38) 38 [5] (Try.f21.body.getD .skip) (postF T [.tmp 4] R) (tm0 [a_, b_]) h = F21 a_ b_ R h := by kernel_rfl
  exact hcalls (args := [a_, b_]) TOKT mixed Try.func21 (c := Try.f21.body.getD .skip) rfl Try.ntmps21 (rs := [.tmp 4]) rfl (by simp) (by rw [e]; exact H)
theorem en21 : entersB Try.prog 21 := ⟨_, Try.func21, by kernel_rfl, by kernel_rfl⟩

/-- compass/compasslaw15.PairProved -/
def F4 (g_ left_ : Value) (R : Ending → Heap → Prop) (h : Heap) : Prop :=
 ∀ r, Heap.fresh h r →
 CALL Try.prog 15 #[] (Heap.new h r (Value.cells g_) 25) (fun v15 h_1 =>
 PV (unV .not v15) fun v16 =>
 (ifV v16
 (R (.returned (Value.bool false)) h_1)
 (PV (ldV T 25 (Value.pointer (some ⟨r, 0, none⟩)) h_1) fun v18 =>
 CALL Try.prog 16 #[v18, left_, (Value.int .i64 1)] h_1 (fun v20 h_2 =>
 PV (extV v20 0) fun v21 =>
 PV (extV v20 1) fun v22 =>
 PV (extV v20 2) fun v23 =>
 PV (ldV T 25 (Value.pointer (some ⟨r, 0, none⟩)) h_2) fun v25 =>
 CALL Try.prog 16 #[v25, left_, (Value.int .i64 2)] h_2 (fun v27 h_3 =>
 PV (extV v27 0) fun v28 =>
 PV (extV v27 1) fun v29 =>
 PV (extV v27 2) fun v30 =>
 JN (fun (a40 : Value) (h_4 : Heap) =>
 (ifV a40
 (R (.returned (Value.bool false)) h_4)
 (PV (binV T .neq 27 v23 (Value.int .i64 0)) fun v42 =>
 (ifV v42
 (PV (lenV T 26 v21) fun v44 =>
 PV (binV T .eql 3 v44 (Value.int .i64 0)) fun v45 =>
 R (.returned v45) h_4)
 (PV (ldV T 25 (Value.pointer (some ⟨r, 0, none⟩)) h_4) fun v47 =>
 CALL Try.prog 19 #[v47, v21, v22] h_4 (fun v50 h_5 =>
 PV (extV v50 0) fun v51 =>
 PV (extV v50 1) fun v52 =>
 PV (ldV T 25 (Value.pointer (some ⟨r, 0, none⟩)) h_5) fun v54 =>
 CALL Try.prog 19 #[v54, v28, v29] h_5 (fun v57 h_6 =>
 PV (extV v57 0) fun v58 =>
 PV (extV v57 1) fun v59 =>
 PV (binV T .eql 27 v52 (Value.int .i64 0)) fun v61 =>
 (ifV v61
 (PV (binV T .eql 27 v59 (Value.int .i64 0)) fun v64 =>
 (ifV v64
 (PV (lenV T 26 v21) fun v69 =>
 PV (binV T .eql 3 v51 v69) fun v70 =>
 (ifV v70
 (PV (lenV T 26 v21) fun v75 =>
 PV (binV T .eql 3 v58 v75) fun v76 =>
 R (.returned v76) h_6)
 (R (.returned (Value.bool false)) h_6)))
 (R (.returned (Value.bool false)) h_6)))
 (R (.returned (Value.bool false)) h_6))) (fun ch h_6 => R (.panicked ch) h_6)) (fun ch h_5 => R (.panicked ch) h_5)))))) fun J =>
 PV (binV T .neq 27 v23 v30) fun v33 =>
 (ifV v33
 (J (Value.bool true) h_3)
 (PV (lenV T 26 v21) fun v36 =>
 PV (lenV T 26 v28) fun v38 =>
 PV (binV T .neq 3 v36 v38) fun v39 =>
 J v39 h_3))) (fun ch h_3 => R (.panicked ch) h_3)) (fun ch h_2 => R (.panicked ch) h_2)))) (fun ch h_1 => R (.panicked ch) h_1)

theorem H4 {g_ left_ : Value} {R : Ending → Heap → Prop} {h : Heap} (H : F4 g_ left_ R h) : HCalls Try.prog 4 #[g_, left_] h R := by
  have e : hw (opF Try.prog T 78) (drawF Try.prog T 78) 78 [] (Try.f4.body.getD .skip) (postF T [.tmp 4] R) (tm0 [g_, left_]) h = F4 g_ left_ R h := by kernel_rfl
  exact hcalls (args := [g_, left_]) TOKT mixed Try.func4 (c := Try.f4.body.getD .skip) rfl Try.ntmps4 (rs := [.tmp 4]) rfl (by simp) (by rw [e]; exact H)
theorem en4 : entersB Try.prog 4 := ⟨_, Try.func4, by kernel_rfl, by kernel_rfl⟩

/-- compass/compasslaw15.PairKeeps -/
def F5 (g_ left_ kind_ : Value) (R : Ending → Heap → Prop) (h : Heap) : Prop :=
 ∀ r, Heap.fresh h r →
 CALL Try.prog 15 #[] (Heap.new h r (Value.cells g_) 25) (fun v18 h_1 =>
 PV (unV .not v18) fun v19 =>
 (ifV v19
 (R (.returned (Value.bool false)) h_1)
 (PV (ldV T 25 (Value.pointer (some ⟨r, 0, none⟩)) h_1) fun v20 =>
 CALL Try.prog 20 #[v20] h_1 (fun v21 h_2 =>
 ∀ r_1, Heap.fresh h_2 r_1 →
 PV (stV T 25 (Value.pointer (some ⟨r_1, 0, none⟩)) v21 (Heap.new h_2 r_1 #[(Value.int .i64 0), (Value.slice none 0 0)] 25)) fun h_3 =>
 PV (fldV T 25 (Value.pointer (some ⟨r_1, 0, none⟩)) 1) fun v22 =>
 PV (ldV T 23 v22 h_3) fun v23 =>
 PV (buildV T 40 #[(2, (Value.int .i64 (-7)))]) fun v24 =>
 alF (bsV T 23 1 #[(0, v24)]) h_3 fun v25 h_4 =>
 (23 = 23) ∧ AP T 23 v23 v25 (fun v26 h_5 =>
 Le h_4 h_5 ∧ (Cons h_5 → PV (fldV T 25 (Value.pointer (some ⟨r, 0, none⟩)) 1) fun v27 =>
 PV (ldV T 23 v27 h_3) fun v28 =>
 PV (lenV T 23 v28) fun v29 =>
 PV (slV T 23 v26 none (some v29) none) fun v30 =>
 PV (fldV T 25 (Value.pointer (some ⟨r_1, 0, none⟩)) 1) fun v31 =>
 PV (stV T 23 v31 v30 h_5) fun h_6 =>
 Cons h_6 → PV (ldV T 25 (Value.pointer (some ⟨r_1, 0, none⟩)) h_6) fun v33 =>
 CALL Try.prog 16 #[v33, left_, kind_] h_6 (fun v36 h_7 =>
 PV (extV v36 0) fun v37 =>
 PV (extV v36 1) fun v38 =>
 PV (extV v36 2) fun v39 =>
 PV (ldV T 25 (Value.pointer (some ⟨r_1, 0, none⟩)) h_7) fun v41 =>
 CALL Try.prog 16 #[v41, left_, kind_] h_7 (fun v44 h_8 =>
 PV (extV v44 0) fun v45 =>
 PV (extV v44 1) fun v46 =>
 PV (extV v44 2) fun v47 =>
 JN (fun (a67 : Value) (h_9 : Heap) =>
 (ifV a67
 (R (.returned (Value.bool false)) h_9)
 (PV (lenV T 26 v37) fun v69 =>
 ∃ I : Nat → List Value → Heap → Prop, (∃ m, I m [(Value.int .i64 0)] h_9) ∧
 ∀ m (X : Tm) h_10, I m [X 70] h_10 →
 PV (binV T .lss 3 (X 70) v69) fun v71 =>
 (ifV v71
 (PV (ixV T 26 v37 (X 70)) fun v75 =>
 PV (stV T 3 v75 (Value.int .i64 (-9)) h_10) fun h_11 =>
 PV (binV T .add 3 (X 70) (Value.int .i64 1)) fun v76 =>
 ∃ m', m' < m ∧ I m' [v76] h_11)
 (PV (lenV T 26 v38) fun v78 =>
 ∃ I_1 : Nat → List Value → Heap → Prop, (∃ m_1, I_1 m_1 [(Value.int .i64 0)] h_10) ∧
 ∀ m_1 (X_1 : Tm) h_11, I_1 m_1 [X_1 79] h_11 →
 PV (binV T .lss 3 (X_1 79) v78) fun v80 =>
 (ifV v80
 (PV (ixV T 26 v38 (X_1 79)) fun v84 =>
 PV (stV T 3 v84 (Value.int .i64 (-9)) h_11) fun h_12 =>
 PV (binV T .add 3 (X_1 79) (Value.int .i64 1)) fun v85 =>
 ∃ m'_1, m'_1 < m_1 ∧ I_1 m'_1 [v85] h_12)
 (PV (binV T .neq 27 v39 (Value.int .i64 0)) fun v87 =>
 (ifV v87
 (PV (lenV T 26 v45) fun v89 =>
 PV (binV T .eql 3 v89 (Value.int .i64 0)) fun v90 =>
 (ifV v90
 (PV (lenV T 26 v46) fun v93 =>
 PV (binV T .eql 3 v93 (Value.int .i64 0)) fun v94 =>
 R (.returned v94) h_11)
 (R (.returned (Value.bool false)) h_11)))
 (PV (ldV T 25 (Value.pointer (some ⟨r, 0, none⟩)) h_11) fun v97 =>
 CALL Try.prog 19 #[v97, v45, v46] h_11 (fun v100 h_12 =>
 PV (extV v100 0) fun v101 =>
 PV (extV v100 1) fun v102 =>
 PV (binV T .eql 27 v102 (Value.int .i64 0)) fun v104 =>
 R (.returned v104) h_12) (fun ch h_12 => R (.panicked ch) h_12)))))))))) fun J =>
 PV (ldV T 25 (Value.pointer (some ⟨r_1, 0, none⟩)) h_8) fun v48 =>
 PV (ldV T 25 (Value.pointer (some ⟨r, 0, none⟩)) h_8) fun v49 =>
 CALL Try.prog 21 #[v48, v49] h_8 (fun v50 h_9 =>
 Cons h_9 → PV (unV .not v50) fun v51 =>
 (ifV v51
 (J (Value.bool true) h_9)
 (PV (fldV T 25 (Value.pointer (some ⟨r_1, 0, none⟩)) 1) fun v53 =>
 PV (ldV T 23 v53 h_9) fun v54 =>
 PV (fldV T 25 (Value.pointer (some ⟨r, 0, none⟩)) 1) fun v55 =>
 PV (ldV T 23 v55 h_9) fun v56 =>
 PV (lenV T 23 v56) fun v57 =>
 PV (binV T .add 3 v57 (Value.int .i64 1)) fun v58 =>
 PV (slV T 23 v54 none (some v58) none) fun v59 =>
 PV (fldV T 25 (Value.pointer (some ⟨r, 0, none⟩)) 1) fun v60 =>
 PV (ldV T 23 v60 h_9) fun v61 =>
 PV (lenV T 23 v61) fun v62 =>
 PV (ixV T 23 v59 v62) fun v63 =>
 PV (fldV T 40 v63 2) fun v64 =>
 PV (ldV T 2 v64 h_9) fun v65 =>
 PV (binV T .neq 2 v65 (Value.int .i64 (-7))) fun v66 =>
 J v66 h_9))) (fun ch h_9 => R (.panicked ch) h_9)) (fun ch h_8 => R (.panicked ch) h_8)) (fun ch h_7 => R (.panicked ch) h_7))) h_4) (fun ch h_2 => R (.panicked ch) h_2)))) (fun ch h_1 => R (.panicked ch) h_1)

theorem H5 {g_ left_ kind_ : Value} {R : Ending → Heap → Prop} {h : Heap} (H : F5 g_ left_ kind_ R h) : HCalls Try.prog 5 #[g_, left_, kind_] h R := by
  have e : hw (opF Try.prog T 105) (drawF Try.prog T 105) 105 [] (Try.f5.body.getD .skip) (postF T [.tmp 6] R) (tm0 [g_, left_, kind_]) h = F5 g_ left_ kind_ R h := by kernel_rfl
  exact hcalls (args := [g_, left_, kind_]) TOKT mixed Try.func5 (c := Try.f5.body.getD .skip) rfl Try.ntmps5 (rs := [.tmp 6]) rfl (by simp) (by rw [e]; exact H)
theorem en5 : entersB Try.prog 5 := ⟨_, Try.func5, by kernel_rfl, by kernel_rfl⟩

end Go.Proofs.Ythchjolcjicpgaa
