/- A part of the proof of 'Rows.QueryReadUptoSaid': for every text and every seeds (of bulk at most 1048576 together) fathomlaw19.QueryRead returns true and its arguments read afterwards as before. -/
import Derived.Test.YtaikjbfkbijlnaaGreatF42
set_option linter.unusedVariables false
set_option linter.unusedSimpArgs false
namespace Go.Proofs.Fathom
open Go Go.Proofs
attribute [local irreducible] PSpec CSpec CSpecE
set_option maxHeartbeats 1000000 in
theorem ty_in {C : TyC} (hC : TyOk C) (X : List (Nat × AObj)) (fd : FuncId) (caps : List V) (nms : List Pm) (tok : Tok) (n j : Nat) (env : List Pm) (s s' : C.W.σ) (hj : C.c < j) (hn : j < n) (hb : env.length + nms.length ≤ 1000000)
    (hX : ∀ p ∈ X, p.1 < n ∧ p.1 ≠ C.c ∧ p.1 ≠ C.hm ∧ p.1 ≠ C.fo ∧ p.1 ≠ j ∧ (∀ m, n ≤ m → p.2.bd m = true) ∧ ∀ q ∈ X, q.1 = p.1 → q = p)
    (hdo : TySpec C X fd caps n j (env ++ nms) (env ++ nms) s s' (.tup [])) :
    TySpec C X F_types_checker_in [.ptr C.c 0, .fn fd caps, .sl tok 3 (nms.map Pm.c)] n j env env s s' (.tup []) := by
  refine ty_def hC w_types_checker_in (by simp) (by simp [V.bd, bds]) hj hn (fun p hp => ⟨(hX p hp).1, (hX p hp).2.1, (hX p hp).2.2.1, (hX p hp).2.2.2.1, (hX p hp).2.2.2.2.1, (hX p hp).2.2.2.2.2.1⟩) fun ob st hXo => ?_
  have hXo2 : ∀ p ∈ X, ob p.1 = some p.2 := fun p hp => hXo p hp (hX p hp).2.2.2.2.2.2
  unfold c_types_checker_in r_types_checker_in
  have hC' := hC
  obtain ⟨c1, c2, c3, c4⟩ := hC'
  have hlt3 := st.lt
  (repeat' (first | simp -implicitDefEqProofs (disch := omega) only [go_sem, ↓reduceIte, st.oc, st.oj, tyO] | (((first | with_reducible apply cnd_c | with_reducible apply grd_c | with_reducible apply pck_c) <;> intro wh <;> (try rewrite [wh]) <;> try simp only [wdw] at wh) <;> (try (revert wh; intro _)) <;> try (exfalso; omega)) | refine andi ?_ | fail))
  have st2 : TySt C n j (env ++ nms) s (upd (upd ob j (some (.row 3 (env.map Pm.c ++ nms.map Pm.c)))) C.c (some (.cells [.map C.hm, .sl .no 11 (C.p.map Fn.c), .row j (env.length + nms.length) 3 0 (env.length + nms.length), .fn C.W.f [.ptr C.fo 0]]))) n j := by
    obtain ⟨mv, cj, cj0, jn, nn, j0n, oc, oj, oh, of_⟩ := st
    refine ⟨.inl rfl, hj, hj, hn, Nat.le_refl _, hn, ?_, ?_, ?_, ?_⟩
    · rw [upd_same]
      simp [tyO]
    · rw [upd_ne _ _ (by omega), upd_same]
      simp
    · rw [upd_ne _ _ (by omega), upd_ne _ _ (by omega)]; exact oh
    · rw [upd_ne _ _ (by omega), upd_ne _ _ (by omega)]; exact of_
  refine ty_call hC st2 hdo (fun p hp => ?_) ?_
  · obtain ⟨x1, x2, x3, x4, x5, x6, x7⟩ := hX p hp
    exact ⟨by rw [upd_ne _ _ x2, upd_ne _ _ x5]; exact hXo2 p hp, x1, x2, x3, x4, x5⟩
  intro ob' n' j' st' hn' hfr
  have hlt4 := st'.lt
  (repeat' (first | simp -implicitDefEqProofs (disch := omega) only [go_sem, ↓reduceIte, st'.oc, st'.oj, tyO] | (((first | with_reducible apply cnd_c | with_reducible apply grd_c | with_reducible apply pck_c) <;> intro wh <;> (try rewrite [wh]) <;> try simp only [wdw] at wh) <;> (try (revert wh; intro _)) <;> try (exfalso; omega)) | refine andi ?_ | fail))
  have hle : env.length ≤ (env ++ nms).length := by simp
  refine ⟨by omega, by omega, hle, n', ?_, ?_⟩
  · obtain ⟨mv, cj, cj0, jn, nn, j0n, oc, oj, oh, of_⟩ := st'
    refine ⟨.inr ⟨nn, ?_⟩, by omega, hj, by omega, by omega, hn, ?_, ?_, ?_, ?_⟩
    · rcases mv with rfl | ⟨m1, q, m2⟩
      · exact ⟨_, by rw [upd_ne _ _ (by omega), upd_ne _ _ (by omega), upd_same]⟩
      · exact ⟨q, by rw [upd_ne _ _ (by omega), upd_ne _ _ (by omega), upd_ne _ _ (by omega), upd_ne _ _ (by omega)]; exact m2⟩
    · rw [upd_same]
      simp [tyO]
    · rw [upd_ne _ _ (by omega), upd_same]
      simp
    · rw [upd_ne _ _ (by omega), upd_ne _ _ (by omega), upd_ne _ _ (by omega), upd_ne _ _ (by omega)]; exact oh
    · rw [upd_ne _ _ (by omega), upd_ne _ _ (by omega), upd_ne _ _ (by omega), upd_ne _ _ (by omega)]; exact of_
  · intro p hp
    obtain ⟨x1, x2, x3, x4, x5, x6, x7⟩ := hX p hp
    have hpj : p.1 ≠ j' := by
      rcases st'.mv with rfl | ⟨m1, _⟩
      · exact x5
      · omega
    rw [upd_ne _ _ x2, upd_ne _ _ (by omega), upd_ne _ _ hpj, upd_ne _ _ x2, hfr _ x1 x2 x3 x4 x5, upd_ne _ _ x2, upd_ne _ _ x5]
    exact hXo2 p hp
/-- What the checker's closures know. -/
def tyX (C : TyC) (q : Nat) (e : Ex) (t : Int) : List (Nat × AObj) := [(q, .cells [.ptr C.c 0]), (q + 1, .cells e.c), (q + 2, .cells [I t])]
theorem tyX_ok {C : TyC} (hC : TyOk C) {q n j : Nat} (hq : C.c < q) (hqn : q + 2 < n) (hj : j < q ∨ q + 2 < j) (e : Ex) (t : Int) : ∀ p ∈ tyX C q e t, p.1 < n ∧ p.1 ≠ C.c ∧ p.1 ≠ C.hm ∧ p.1 ≠ C.fo ∧ p.1 ≠ j ∧ (∀ m, n ≤ m → p.2.bd m = true) ∧ ∀ r ∈ tyX C q e t, r.1 = p.1 → r = p := by
  obtain ⟨c1, c2, c3, c4⟩ := hC
  intro p hp
  simp only [tyX, List.mem_cons, List.not_mem_nil, or_false] at hp
  rcases hp with rfl | rfl | rfl
  · refine ⟨by simp only; omega, by simp only; omega, by simp only; omega, by simp only; omega, by simp only; omega, fun m hm => ?_, fun r hr h => ?_⟩
    · simp [AObj.bd, bds, V.bd]; omega
    · simp only [tyX, List.mem_cons, List.not_mem_nil, or_false] at hr
      rcases hr with rfl | rfl | rfl
      · rfl
      · simp only at h; omega
      · simp only at h; omega
  · refine ⟨by simp only; omega, by simp only; omega, by simp only; omega, by simp only; omega, by simp only; omega, fun m hm => Ex.bd m e, fun r hr h => ?_⟩
    simp only [tyX, List.mem_cons, List.not_mem_nil, or_false] at hr
    rcases hr with rfl | rfl | rfl
    · simp only at h; omega
    · rfl
    · simp only at h; omega
  · refine ⟨by simp only; omega, by simp only; omega, by simp only; omega, by simp only; omega, by simp only; omega, fun m hm => rfl, fun r hr h => ?_⟩
    simp only [tyX, List.mem_cons, List.not_mem_nil, or_false] at hr
    rcases hr with rfl | rfl | rfl
    · simp only at h; omega
    · simp only at h; omega
    · rfl
theorem Ex.c_d3 (e : Ex) : List.drop 3 e.c = [.int .i64 e.typ, .cpx e.re e.im, .sl .no 7 (Ex.cs e.args), .int .i64 e.at_] := by rw [Ex.c_eq]; rfl
theorem toNat2 : Int.toNat 2 = 2 := rfl
set_option maxHeartbeats 1000000 in
theorem ty_do1 {C : TyC} (hC : TyOk C) {N : Nat} (W : TyW C N) (e x0 x1 x2 : Ex) (t : Int) (ha : e.args = [x0, x1, x2]) (hz : x2.sz ≤ N) (hwf : x2.wf) (q n j : Nat) (env : List Pm) (s : C.W.σ) (hq : C.c < q) (hqn : q + 2 < n) (hjq : j < q ∨ q + 2 < j) (hj : C.c < j) (hn : j < n) (hb : env.length + 2 * x2.sz ≤ 1000000) :
    TySpec C (tyX C q e t) F_types_checker_want_1 [.ptr q 0, .ptr (q + 1) 0, .ptr (q + 2) 0] n j env env s (wnS C x2 env t s) (.tup []) := by
  have hX := tyX_ok hC hq hqn hjq e t
  refine ty_def hC w_types_checker_want_1 (by simp) (by simp [V.bd, bds]) hj hn (fun p hp => ⟨(hX p hp).1, (hX p hp).2.1, (hX p hp).2.2.1, (hX p hp).2.2.2.1, (hX p hp).2.2.2.2.1, (hX p hp).2.2.2.2.2.1⟩) fun ob st hXo => ?_
  have hXo2 : ∀ p ∈ tyX C q e t, ob p.1 = some p.2 := fun p hp => hXo p hp (hX p hp).2.2.2.2.2.2
  have o1 : ob q = some (.cells [.ptr C.c 0]) := hXo2 (q, _) (by simp [tyX])
  have o2 : ob (q + 1) = some (.cells e.c) := hXo2 (q + 1, _) (by simp [tyX])
  have o3 : ob (q + 2) = some (.cells [I t]) := hXo2 (q + 2, _) (by simp [tyX])
  unfold c_types_checker_want_1 r_types_checker_want_1
  have hcs : Ex.cs e.args = [x0.c, x1.c, x2.c] := by rw [ha]; rfl
  (repeat' (first | simp -implicitDefEqProofs (disch := omega) only [go_sem, ↓reduceIte, o1, o2, o3, Ex.c_eq e, hcs, toNat2] | (((first | with_reducible apply cnd_c | with_reducible apply grd_c | with_reducible apply pck_c) <;> intro wh <;> (try rewrite [wh]) <;> try simp only [wdw] at wh) <;> (try (revert wh; intro _)) <;> try (exfalso; omega)) | refine andi ?_ | fail))
  refine ty_call hC st (W x2 hz hwf n j env t s hj hn hb) (by simp) ?_
  intro ob' n' j' st' hn' hfr
  (repeat' (first | simp -implicitDefEqProofs (disch := omega) only [go_sem, ↓reduceIte] | (((first | with_reducible apply cnd_c | with_reducible apply grd_c | with_reducible apply pck_c) <;> intro wh <;> (try rewrite [wh]) <;> try simp only [wdw] at wh) <;> (try (revert wh; intro _)) <;> try (exfalso; omega)) | refine andi ?_ | fail))
  refine ⟨j', st', fun p hp => ?_⟩
  obtain ⟨y1, y2, y3, y4, y5, y6, y7⟩ := hX p hp
  rw [hfr _ y1 y2 y3 y4 y5]
  exact hXo2 p hp
set_option maxHeartbeats 1000000 in
theorem ty_do2 {C : TyC} (hC : TyOk C) {N : Nat} (W : TyW C N) (e x0 x1 : Ex) (t : Int) (ha : e.args = [x0, x1]) (hz0 : x0.sz ≤ N) (hwf0 : x0.wf) (hz : x1.sz ≤ N) (hwf : x1.wf) (q n j : Nat) (env : List Pm) (s : C.W.σ) (hq : C.c < q) (hqn : q + 2 < n) (hjq : j < q ∨ q + 2 < j) (hj : C.c < j) (hn : j < n) (hb0 : env.length + 2 * x0.sz ≤ 1000000) (hb : env.length + 2 * x1.sz ≤ 1000000) :
    TySpec C (tyX C q e t) F_types_checker_want_2 [.ptr q 0, .ptr (q + 1) 0, .ptr (q + 2) 0] n j env env s (wnS C x1 env t (wnS C x0 env e.typ s)) (.tup []) := by
  have hX := tyX_ok hC hq hqn hjq e t
  refine ty_def hC w_types_checker_want_2 (by simp) (by simp [V.bd, bds]) hj hn (fun p hp => ⟨(hX p hp).1, (hX p hp).2.1, (hX p hp).2.2.1, (hX p hp).2.2.2.1, (hX p hp).2.2.2.2.1, (hX p hp).2.2.2.2.2.1⟩) fun ob st hXo => ?_
  have hXo2 : ∀ p ∈ tyX C q e t, ob p.1 = some p.2 := fun p hp => hXo p hp (hX p hp).2.2.2.2.2.2
  have o1 : ob q = some (.cells [.ptr C.c 0]) := hXo2 (q, _) (by simp [tyX])
  have o2 : ob (q + 1) = some (.cells e.c) := hXo2 (q + 1, _) (by simp [tyX])
  have o3 : ob (q + 2) = some (.cells [I t]) := hXo2 (q + 2, _) (by simp [tyX])
  unfold c_types_checker_want_2 r_types_checker_want_2
  have hcs : Ex.cs e.args = [x0.c, x1.c] := by rw [ha]; rfl
  (repeat' (first | simp -implicitDefEqProofs (disch := omega) only [go_sem, ↓reduceIte, o1, o2, o3, Ex.c_eq e, hcs] | (((first | with_reducible apply cnd_c | with_reducible apply grd_c | with_reducible apply pck_c) <;> intro wh <;> (try rewrite [wh]) <;> try simp only [wdw] at wh) <;> (try (revert wh; intro _)) <;> try (exfalso; omega)) | refine andi ?_ | fail))
  refine ty_call hC st (W x0 hz0 hwf0 n j env e.typ s hj hn hb0) (by simp) ?_
  intro ob' n' j' st' hn' hfr
  have hXo3 : ∀ p ∈ tyX C q e t, ob' p.1 = some p.2 := fun p hp => by
    obtain ⟨y1, y2, y3, y4, y5, y6, y7⟩ := hX p hp
    rw [hfr _ y1 y2 y3 y4 y5]
    exact hXo2 p hp
  have p1 : ob' q = some (.cells [.ptr C.c 0]) := hXo3 (q, _) (by simp [tyX])
  have p2 : ob' (q + 1) = some (.cells e.c) := hXo3 (q + 1, _) (by simp [tyX])
  have p3 : ob' (q + 2) = some (.cells [I t]) := hXo3 (q + 2, _) (by simp [tyX])
  have hlt3 := st'.lt
  have hjq' : j' < q ∨ q + 2 < j' := by
    rcases st'.mv with rfl | ⟨m1, _⟩
    · exact hjq
    · omega
  (repeat' (first | simp -implicitDefEqProofs (disch := omega) only [go_sem, ↓reduceIte, p1, p2, p3, Ex.c_eq e, hcs] | (((first | with_reducible apply cnd_c | with_reducible apply grd_c | with_reducible apply pck_c) <;> intro wh <;> (try rewrite [wh]) <;> try simp only [wdw] at wh) <;> (try (revert wh; intro _)) <;> try (exfalso; omega)) | refine andi ?_ | fail))
  refine ty_call hC st' (W x1 hz hwf n' j' env t _ hlt3.1 hlt3.2.1 hb) (by simp) ?_
  intro ob2 n2 j2 st2 hn2 hfr2
  (repeat' (first | simp -implicitDefEqProofs (disch := omega) only [go_sem, ↓reduceIte] | (((first | with_reducible apply cnd_c | with_reducible apply grd_c | with_reducible apply pck_c) <;> intro wh <;> (try rewrite [wh]) <;> try simp only [wdw] at wh) <;> (try (revert wh; intro _)) <;> try (exfalso; omega)) | refine andi ?_ | fail))
  refine ⟨j2, st2, fun p hp => ?_⟩
  obtain ⟨y1, y2, y3, y4, y5, y6, y7⟩ := tyX_ok hC hq (show q + 2 < n' by omega) hjq' e t p hp
  rw [hfr2 _ y1 y2 y3 y4 y5]
  exact hXo3 p hp
set_option maxHeartbeats 1000000 in
theorem ty_do3 {C : TyC} (hC : TyOk C) {N : Nat} (W : TyW C N) (e x0 x1 : Ex) (t : Int) (ha : e.args = [x0, x1]) (hz : x1.sz ≤ N) (hwf : x1.wf) (q n j : Nat) (env : List Pm) (s : C.W.σ) (hq : C.c < q) (hqn : q + 2 < n) (hjq : j < q ∨ q + 2 < j) (hj : C.c < j) (hn : j < n) (hb : env.length + 2 * x1.sz ≤ 1000000) :
    TySpec C (tyX C q e t) F_types_checker_want_3 [.ptr q 0, .ptr (q + 1) 0, .ptr (q + 2) 0] n j env env s (wnS C x1 env t s) (.tup []) := by
  have hX := tyX_ok hC hq hqn hjq e t
  refine ty_def hC w_types_checker_want_3 (by simp) (by simp [V.bd, bds]) hj hn (fun p hp => ⟨(hX p hp).1, (hX p hp).2.1, (hX p hp).2.2.1, (hX p hp).2.2.2.1, (hX p hp).2.2.2.2.1, (hX p hp).2.2.2.2.2.1⟩) fun ob st hXo => ?_
  have hXo2 : ∀ p ∈ tyX C q e t, ob p.1 = some p.2 := fun p hp => hXo p hp (hX p hp).2.2.2.2.2.2
  have o1 : ob q = some (.cells [.ptr C.c 0]) := hXo2 (q, _) (by simp [tyX])
  have o2 : ob (q + 1) = some (.cells e.c) := hXo2 (q + 1, _) (by simp [tyX])
  have o3 : ob (q + 2) = some (.cells [I t]) := hXo2 (q + 2, _) (by simp [tyX])
  unfold c_types_checker_want_3 r_types_checker_want_3
  have hcs : Ex.cs e.args = [x0.c, x1.c] := by rw [ha]; rfl
  (repeat' (first | simp -implicitDefEqProofs (disch := omega) only [go_sem, ↓reduceIte, o1, o2, o3, Ex.c_eq e, hcs] | (((first | with_reducible apply cnd_c | with_reducible apply grd_c | with_reducible apply pck_c) <;> intro wh <;> (try rewrite [wh]) <;> try simp only [wdw] at wh) <;> (try (revert wh; intro _)) <;> try (exfalso; omega)) | refine andi ?_ | fail))
  refine ty_call hC st (W x1 hz hwf n j env t s hj hn hb) (by simp) ?_
  intro ob' n' j' st' hn' hfr
  (repeat' (first | simp -implicitDefEqProofs (disch := omega) only [go_sem, ↓reduceIte] | (((first | with_reducible apply cnd_c | with_reducible apply grd_c | with_reducible apply pck_c) <;> intro wh <;> (try rewrite [wh]) <;> try simp only [wdw] at wh) <;> (try (revert wh; intro _)) <;> try (exfalso; omega)) | refine andi ?_ | fail))
  refine ⟨j', st', fun p hp => ?_⟩
  obtain ⟨y1, y2, y3, y4, y5, y6, y7⟩ := hX p hp
  rw [hfr _ y1 y2 y3 y4 y5]
  exact hXo2 p hp
end Go.Proofs.Fathom
set_option linter.unusedVariables false
set_option linter.unusedSimpArgs false
namespace Go.Proofs.Fathom
open Go Go.Proofs
attribute [local irreducible] PSpec CSpec CSpecE
theorem TySt.tell {C : TyC} (hC : TyOk C) {n j0 nx j : Nat} {env : List Pm} {s s' : C.W.σ} {ob : Obs} (st : TySt C n j0 env s ob nx j) : TySt C n j0 env s' (upd ob C.fo (some (C.W.ob s'))) nx j := by
  obtain ⟨c1, c2, c3, c4⟩ := hC
  obtain ⟨mv, cj, cj0, jn, nn, j0n, oc, oj, oh, of_⟩ := st
  refine ⟨?_, cj, cj0, jn, nn, j0n, ?_, ?_, ?_, upd_same _ _ _⟩
  · rcases mv with rfl | ⟨m1, q, m2⟩
    · exact .inl rfl
    · exact .inr ⟨m1, q, by rw [upd_ne _ _ (by omega)]; exact m2⟩
  · rw [upd_ne _ _ (by omega)]; exact oc
  · rw [upd_ne _ _ (by omega)]; exact oj
  · rw [upd_ne _ _ (by omega)]; exact oh
theorem tyX_ob {C : TyC} {q : Nat} {e : Ex} {t : Int} {ob : Obs} (h : ob q = some (.cells [.ptr C.c 0]) ∧ ob (q + 1) = some (.cells e.c) ∧ ob (q + 2) = some (.cells [I t])) : ∀ p ∈ tyX C q e t, ob p.1 = some p.2 := by
  intro p hp
  simp only [tyX, List.mem_cons, List.not_mem_nil, or_false] at hp
  rcases hp with rfl | rfl | rfl
  · exact h.1
  · exact h.2.1
  · exact h.2.2
theorem arg3 {l : List Ex} (h : l.length = 3) : ∃ x y z, l = [x, y, z] := by
  match l, h with
  | [x, y, z], _ => exact ⟨x, y, z, rfl⟩
theorem arg2 {l : List Ex} (h : l.length = 2) : ∃ x y, l = [x, y] := by
  match l, h with
  | [x, y], _ => exact ⟨x, y, rfl⟩
set_option maxHeartbeats 4000000 in
theorem ty_want {C : TyC} (hC : TyOk C) {N : Nat} (W : TyW C N) : TyW C (N + 1) := by
  intro e hz hwf n j env t s hj hn hb
  refine ty_def hC w_types_checker_want (by simp) (by simp [V.bd, bds]) hj hn (by simp) fun ob st _ => ?_
  unfold c_types_checker_want r_types_checker_want
  have hsz := Ex.sz_eq e
  have hlen := Ex.szs_len e.args
  have har : arOk e.op e.args.length := by cases e; exact hwf.1
  have hws : Ex.wfs e.args := by cases e; exact hwf.2
  have hC' := hC
  obtain ⟨c1, c2, c3, c4⟩ := hC'
  have hwS : wnS C e env t s = ((if visC C e.op e.name e.args.length = true then wrLs C e.args e.op e.typ e.name e.tail 0 env t else []) ++ (if (19 ≤ e.op ∧ e.op ≤ 22) ∨ ownT C env e.op e.typ e.name e.args.length = t then [] else [e.at_])).foldl C.W.step s := by
    unfold wnS; rw [wrL_eq]
  rw [hwS]
  have stA := ((st.put hC (some (.cells [.ptr C.c 0]))).put hC (some (.cells e.c))).put hC (some (.cells [I t]))
  generalize hob3 : upd (upd (upd ob n (some (.cells [.ptr C.c 0]))) (n + 1) (some (.cells e.c))) (n + 1 + 1) (some (.cells [I t])) = ob3 at *
  have o1 : ob3 n = some (.cells [.ptr C.c 0]) := by rw [← hob3]; simp (disch := omega) only [upd_same', upd_ne']
  have o2 : ob3 (n + 1) = some (.cells e.c) := by rw [← hob3]; simp (disch := omega) only [upd_same', upd_ne']
  have o3 : ob3 (n + 1 + 1) = some (.cells [I t]) := by rw [← hob3]; simp (disch := omega) only [upd_same', upd_ne']
  have oF : ∀ {obA obB : Obs} {m jA : Nat}, (obA n = some (.cells [.ptr C.c 0]) ∧ obA (n + 1) = some (.cells e.c) ∧ obA (n + 1 + 1) = some (.cells [I t])) → n + 3 ≤ m → (jA < n ∨ n + 3 ≤ jA) → (∀ i, i < m → i ≠ C.c → i ≠ C.hm → i ≠ C.fo → i ≠ jA → obB i = obA i) → obB n = some (.cells [.ptr C.c 0]) ∧ obB (n + 1) = some (.cells e.c) ∧ obB (n + 1 + 1) = some (.cells [I t]) := fun hA hm hjA h =>
    ⟨by rw [h _ (by omega) (by omega) (by omega) (by omega) (by omega)]; exact hA.1, by rw [h _ (by omega) (by omega) (by omega) (by omega) (by omega)]; exact hA.2.1, by rw [h _ (by omega) (by omega) (by omega) (by omega) (by omega)]; exact hA.2.2⟩
  by_cases h19 : e.op = 19
  · obtain ⟨x0, x1, x2, ha⟩ := arg3 (har.1 h19)
    have hv : visC C e.op e.name e.args.length = true := by simp [visC, h19]
    have hs3 : x0.sz + (x1.sz + x2.sz) + 1 = e.sz := by rw [hsz, ha]; simp [Ex.szs]; omega
    have hw3 : x0.wf ∧ x1.wf ∧ x2.wf := by rw [ha] at hws; exact ⟨hws.1, hws.2.1, hws.2.2.1⟩
    have hR : wrLs C e.args e.op e.typ e.name e.tail 0 env t = wrL C x0 env 2 ++ allL C [x1, x2] env t := by
      rw [ha]
      simp [wrLs, parE, parT, h19, allL]
    rw [hv, if_pos rfl, if_pos (.inl (by omega)), List.append_nil, hR, List.foldl_append]
    have hcs : Ex.cs e.args = [x0.c, x1.c, x2.c] := by rw [ha]; rfl
    (simp -implicitDefEqProofs (disch := omega) only [go_sem, ↓reduceIte])
    rw [hob3]
    (repeat' (first | simp -implicitDefEqProofs (disch := omega) only [go_sem, ↓reduceIte, o1, o2, o3, Ex.c_eq e, hcs] | (((first | with_reducible apply cnd_c | with_reducible apply grd_c | with_reducible apply pck_c) <;> intro wh <;> (try rewrite [wh]) <;> try simp only [wdw] at wh) <;> (try (revert wh; intro _)) <;> try (exfalso; omega)) | refine andi ?_ | fail))
    refine ty_call hC stA (W x0 (by omega) hw3.1 _ j env 2 s hj (by omega) (by omega)) (by simp) ?_
    intro ob' n' j' st' hn' hfr
    have oB := oF ⟨o1, o2, o3⟩ (by omega) (by omega) hfr
    obtain ⟨p1, p2, p3⟩ := oB
    have hlt3 := st'.lt
    (repeat' (first | simp -implicitDefEqProofs (disch := omega) only [go_sem, ↓reduceIte, p1, p2, p3, Ex.c_eq e, hcs] | (((first | with_reducible apply cnd_c | with_reducible apply grd_c | with_reducible apply pck_c) <;> intro wh <;> (try rewrite [wh]) <;> try simp only [wdw] at wh) <;> (try (revert wh; intro _)) <;> try (exfalso; omega)) | refine andi ?_ | fail))
    have hal := ty_all hC W [x1, x2] .no n' j' env t (wnS C x0 env 2 s) (fun x hx => by
      simp only [List.mem_cons, List.not_mem_nil, or_false] at hx
      rcases hx with rfl | rfl
      · exact ⟨by omega, hw3.2.1, by omega⟩
      · exact ⟨by omega, hw3.2.2, by omega⟩) hlt3.1 hlt3.2.1 (by simp)
    refine ty_call hC st' hal (by simp) ?_
    intro ob2 n2 j2 st2 hn2 hfr2
    have oD := oF ⟨p1, p2, p3⟩ (by omega) (by omega) hfr2
    obtain ⟨q1, q2, q3⟩ := oD
    (repeat' (first | simp -implicitDefEqProofs (disch := omega) only [go_sem, ↓reduceIte, q1, q2, q3, Ex.c_eq e, hcs] | (((first | with_reducible apply cnd_c | with_reducible apply grd_c | with_reducible apply pck_c) <;> intro wh <;> (try rewrite [wh]) <;> try simp only [wdw] at wh) <;> (try (revert wh; intro _)) <;> try (exfalso; omega)) | refine andi ?_ | fail))
    exact ⟨j2, st2⟩
  by_cases h20 : e.op = 20
  · obtain ⟨x0, x1, x2, ha⟩ := arg3 (har.2.1 h20)
    have hv : visC C e.op e.name e.args.length = true := by simp [visC, h20]
    have hs3 : x0.sz + (x1.sz + x2.sz) + 1 = e.sz := by rw [hsz, ha]; simp [Ex.szs]; omega
    have hw3 : x0.wf ∧ x1.wf ∧ x2.wf := by rw [ha] at hws; exact ⟨hws.1, hws.2.1, hws.2.2.1⟩
    have hx2 := Ex.sz_eq x2
    have hR : wrLs C e.args e.op e.typ e.name e.tail 0 env t = wrL C x0 env 3 ++ (wrL C x1 env t ++ wrL C x2 (env ++ [⟨e.name, 1, 0⟩, ⟨e.tail, 3, 0⟩]) t) := by
      rw [ha]
      simp [wrLs, parE, parT, h20]
    rw [hv, if_pos rfl, if_pos (.inl (by omega)), List.append_nil, hR, List.foldl_append, List.foldl_append]
    have hcs : Ex.cs e.args = [x0.c, x1.c, x2.c] := by rw [ha]; rfl
    (simp -implicitDefEqProofs (disch := omega) only [go_sem, ↓reduceIte])
    rw [hob3]
    (repeat' (first | simp -implicitDefEqProofs (disch := omega) only [go_sem, ↓reduceIte, o1, o2, o3, Ex.c_eq e, hcs] | (((first | with_reducible apply cnd_c | with_reducible apply grd_c | with_reducible apply pck_c) <;> intro wh <;> (try rewrite [wh]) <;> try simp only [wdw] at wh) <;> (try (revert wh; intro _)) <;> try (exfalso; omega)) | refine andi ?_ | fail))
    refine ty_call hC stA (W x0 (by omega) hw3.1 _ j env 3 s hj (by omega) (by omega)) (by simp) ?_
    intro ob' n' j' st' hn' hfr
    have oB := oF ⟨o1, o2, o3⟩ (by omega) (by omega) hfr
    obtain ⟨p1, p2, p3⟩ := oB
    have hlt3 := st'.lt
    (repeat' (first | simp -implicitDefEqProofs (disch := omega) only [go_sem, ↓reduceIte, p1, p2, p3, Ex.c_eq e, hcs] | (((first | with_reducible apply cnd_c | with_reducible apply grd_c | with_reducible apply pck_c) <;> intro wh <;> (try rewrite [wh]) <;> try simp only [wdw] at wh) <;> (try (revert wh; intro _)) <;> try (exfalso; omega)) | refine andi ?_ | fail))
    refine ty_call hC st' (W x1 (by omega) hw3.2.1 _ j' env t _ hlt3.1 hlt3.2.1 (by omega)) (by simp) ?_
    intro ob2 n2 j2 st2 hn2 hfr2
    have oD := oF ⟨p1, p2, p3⟩ (by omega) (by omega) hfr2
    obtain ⟨q1, q2, q3⟩ := oD
    have hlt4 := st2.lt
    (repeat' (first | simp -implicitDefEqProofs (disch := omega) only [go_sem, ↓reduceIte, q1, q2, q3, Ex.c_eq e, hcs] | (((first | with_reducible apply cnd_c | with_reducible apply grd_c | with_reducible apply pck_c) <;> intro wh <;> (try rewrite [wh]) <;> try simp only [wdw] at wh) <;> (try (revert wh; intro _)) <;> try (exfalso; omega)) | refine andi ?_ | fail))
    have hdo := fun s1 => ty_do1 hC W e x0 x1 x2 t ha (by omega) hw3.2.2 n n2 j2 (env ++ [⟨e.name, 1, 0⟩, ⟨e.tail, 3, 0⟩]) s1 (by omega) (by omega) (by omega) hlt4.1 hlt4.2.1 (by simp; omega)
    have hX := tyX_ok hC (q := n) (n := n2) (j := j2) (by omega) (by omega) (by omega) e t
    have hin := fun s1 => ty_in hC (tyX C n e t) F_types_checker_want_1 _ [⟨e.name, 1, 0⟩, ⟨e.tail, 3, 0⟩] .full n2 j2 env s1 _ hlt4.1 hlt4.2.1 (by simp; omega) hX (hdo s1)
    refine ty_call hC st2 (hin _) (fun p hp => ⟨tyX_ob ⟨q1, q2, q3⟩ p hp, (hX p hp).1, (hX p hp).2.1, (hX p hp).2.2.1, (hX p hp).2.2.2.1, (hX p hp).2.2.2.2.1⟩) ?_
    intro ob3' n3 j3 st3 hn3 hfr3
    have oE := oF ⟨q1, q2, q3⟩ (by omega) (by omega) hfr3
    obtain ⟨r1, r2, r3⟩ := oE
    (repeat' (first | simp -implicitDefEqProofs (disch := omega) only [go_sem, ↓reduceIte, r1, r2, r3, Ex.c_eq e] | (((first | with_reducible apply cnd_c | with_reducible apply grd_c | with_reducible apply pck_c) <;> intro wh <;> (try rewrite [wh]) <;> try simp only [wdw] at wh) <;> (try (revert wh; intro _)) <;> try (exfalso; omega)) | refine andi ?_ | fail))
    exact ⟨j3, st3⟩
  by_cases h21 : e.op = 21
  · obtain ⟨x0, x1, ha⟩ := arg2 (har.2.2.1 h21)
    have hv : visC C e.op e.name e.args.length = true := by simp [visC, h21]
    have hs3 : x0.sz + x1.sz + 1 = e.sz := by rw [hsz, ha]; simp [Ex.szs]; omega
    have hw3 : x0.wf ∧ x1.wf := by rw [ha] at hws; exact ⟨hws.1, hws.2.1⟩
    have hx0 := Ex.sz_eq x0
    have hx1 := Ex.sz_eq x1
    have hR : wrLs C e.args e.op e.typ e.name e.tail 0 env t = wrL C x0 (env ++ [⟨e.name, e.typ, 0⟩]) e.typ ++ wrL C x1 (env ++ [⟨e.name, e.typ, 0⟩]) t := by
      rw [ha]
      simp [wrLs, parE, parT, h21]
    rw [hv, if_pos rfl, if_pos (.inl (by omega)), List.append_nil, hR, List.foldl_append]
    (simp -implicitDefEqProofs (disch := omega) only [go_sem, ↓reduceIte])
    rw [hob3]
    have hlt4 := stA.lt
    (repeat' (first | simp -implicitDefEqProofs (disch := omega) only [go_sem, ↓reduceIte, o1, o2, o3, Ex.c_eq e] | (((first | with_reducible apply cnd_c | with_reducible apply grd_c | with_reducible apply pck_c) <;> intro wh <;> (try rewrite [wh]) <;> try simp only [wdw] at wh) <;> (try (revert wh; intro _)) <;> try (exfalso; omega)) | refine andi ?_ | fail))
    have hdo := ty_do2 hC W e x0 x1 t ha (by omega) hw3.1 (by omega) hw3.2 n (n + 1 + 1 + 1) j (env ++ [⟨e.name, e.typ, 0⟩]) s (by omega) (by omega) (by omega) hj (by omega) (by simp; omega) (by simp; omega)
    have hX := tyX_ok hC (q := n) (n := n + 1 + 1 + 1) (j := j) (by omega) (by omega) (by omega) e t
    have hin := ty_in hC (tyX C n e t) F_types_checker_want_2 _ [⟨e.name, e.typ, 0⟩] .full (n + 1 + 1 + 1) j env s _ hj (by omega) (by simp; omega) hX hdo
    refine ty_call hC stA hin (fun p hp => ⟨tyX_ob ⟨o1, o2, o3⟩ p hp, (hX p hp).1, (hX p hp).2.1, (hX p hp).2.2.1, (hX p hp).2.2.2.1, (hX p hp).2.2.2.2.1⟩) ?_
    intro ob3' n3 j3 st3 hn3 hfr3
    have oE := oF ⟨o1, o2, o3⟩ (by omega) (by omega) hfr3
    obtain ⟨r1, r2, r3⟩ := oE
    (repeat' (first | simp -implicitDefEqProofs (disch := omega) only [go_sem, ↓reduceIte, r1, r2, r3, Ex.c_eq e] | (((first | with_reducible apply cnd_c | with_reducible apply grd_c | with_reducible apply pck_c) <;> intro wh <;> (try rewrite [wh]) <;> try simp only [wdw] at wh) <;> (try (revert wh; intro _)) <;> try (exfalso; omega)) | refine andi ?_ | fail))
    exact ⟨j3, st3⟩
  by_cases h22 : e.op = 22
  · obtain ⟨x0, x1, ha⟩ := arg2 (har.2.2.2.1 h22)
    have hv : visC C e.op e.name e.args.length = true := by simp [visC, h22]
    have hs3 : x0.sz + x1.sz + 1 = e.sz := by rw [hsz, ha]; simp [Ex.szs]; omega
    have hw3 : x0.wf ∧ x1.wf := by rw [ha] at hws; exact ⟨hws.1, hws.2.1⟩
    have hx0 := Ex.sz_eq x0
    have hx1 := Ex.sz_eq x1
    have hR : wrLs C e.args e.op e.typ e.name e.tail 0 env t = wrL C x0 env e.typ ++ wrL C x1 (env ++ [⟨e.name, e.typ, 0⟩]) t := by
      rw [ha]
      simp [wrLs, parE, parT, h22]
    rw [hv, if_pos rfl, if_pos (.inl (by omega)), List.append_nil, hR, List.foldl_append]
    have hcs : Ex.cs e.args = [x0.c, x1.c] := by rw [ha]; rfl
    (simp -implicitDefEqProofs (disch := omega) only [go_sem, ↓reduceIte])
    rw [hob3]
    (repeat' (first | simp -implicitDefEqProofs (disch := omega) only [go_sem, ↓reduceIte, o1, o2, o3, Ex.c_eq e, hcs] | (((first | with_reducible apply cnd_c | with_reducible apply grd_c | with_reducible apply pck_c) <;> intro wh <;> (try rewrite [wh]) <;> try simp only [wdw] at wh) <;> (try (revert wh; intro _)) <;> try (exfalso; omega)) | refine andi ?_ | fail))
    refine ty_call hC stA (W x0 (by omega) hw3.1 _ j env e.typ s hj (by omega) (by omega)) (by simp) ?_
    intro ob2 n2 j2 st2 hn2 hfr2
    have oD := oF ⟨o1, o2, o3⟩ (by omega) (by omega) hfr2
    obtain ⟨q1, q2, q3⟩ := oD
    have hlt4 := st2.lt
    (repeat' (first | simp -implicitDefEqProofs (disch := omega) only [go_sem, ↓reduceIte, q1, q2, q3, Ex.c_eq e] | (((first | with_reducible apply cnd_c | with_reducible apply grd_c | with_reducible apply pck_c) <;> intro wh <;> (try rewrite [wh]) <;> try simp only [wdw] at wh) <;> (try (revert wh; intro _)) <;> try (exfalso; omega)) | refine andi ?_ | fail))
    have hdo := fun s1 => ty_do3 hC W e x0 x1 t ha (by omega) hw3.2 n n2 j2 (env ++ [⟨e.name, e.typ, 0⟩]) s1 (by omega) (by omega) (by omega) hlt4.1 hlt4.2.1 (by simp; omega)
    have hX := tyX_ok hC (q := n) (n := n2) (j := j2) (by omega) (by omega) (by omega) e t
    have hin := fun s1 => ty_in hC (tyX C n e t) F_types_checker_want_3 _ [⟨e.name, e.typ, 0⟩] .full n2 j2 env s1 _ hlt4.1 hlt4.2.1 (by simp; omega) hX (hdo s1)
    refine ty_call hC st2 (hin _) (fun p hp => ⟨tyX_ob ⟨q1, q2, q3⟩ p hp, (hX p hp).1, (hX p hp).2.1, (hX p hp).2.2.1, (hX p hp).2.2.2.1, (hX p hp).2.2.2.2.1⟩) ?_
    intro ob3' n3 j3 st3 hn3 hfr3
    have oE := oF ⟨q1, q2, q3⟩ (by omega) (by omega) hfr3
    obtain ⟨r1, r2, r3⟩ := oE
    (repeat' (first | simp -implicitDefEqProofs (disch := omega) only [go_sem, ↓reduceIte, r1, r2, r3, Ex.c_eq e] | (((first | with_reducible apply cnd_c | with_reducible apply grd_c | with_reducible apply pck_c) <;> intro wh <;> (try rewrite [wh]) <;> try simp only [wdw] at wh) <;> (try (revert wh; intro _)) <;> try (exfalso; omega)) | refine andi ?_ | fail))
    exact ⟨j3, st3⟩
  have how := ty_own hC W e (by omega) hz hwf (n + 1 + 1 + 1) j env t s hj (by omega) hb
  rw [List.foldl_append]
  generalize (if visC C e.op e.name e.args.length = true then wrLs C e.args e.op e.typ e.name e.tail 0 env t else []).foldl C.W.step s = R at *
  (simp -implicitDefEqProofs (disch := omega) only [go_sem, ↓reduceIte])
  rw [hob3]
  (repeat' (first | simp -implicitDefEqProofs (disch := omega) only [go_sem, ↓reduceIte, o1, o2, o3, Ex.c_eq e] | (((first | with_reducible apply cnd_c | with_reducible apply grd_c | with_reducible apply pck_c) <;> intro wh <;> (try rewrite [wh]) <;> try simp only [wdw] at wh) <;> (try (revert wh; intro _)) <;> try (exfalso; omega)) | refine andi ?_ | fail))
  rw [← Ex.c_eq e]
  refine ty_call hC stA how (by simp) ?_
  intro ob2 n2 j2 st2 hn2 hfr2
  have oD := oF ⟨o1, o2, o3⟩ (by omega) (by omega) hfr2
  obtain ⟨q1, q2, q3⟩ := oD
  have hlt4 := st2.lt
  by_cases hot : ownT C env e.op e.typ e.name e.args.length = t
  · rw [if_pos (.inr hot)]
    have hot' : (ownT C env e.op e.typ e.name e.args.length = t) = True := eq_true hot
    (repeat' (first | simp -implicitDefEqProofs (disch := omega) only [go_sem, ↓reduceIte, q1, q2, q3, Ex.c_eq e, hot'] | (((first | with_reducible apply cnd_c | with_reducible apply grd_c | with_reducible apply pck_c) <;> intro wh <;> (try rewrite [wh]) <;> try simp only [wdw] at wh) <;> (try (revert wh; intro _)) <;> try (exfalso; omega)) | refine andi ?_ | fail))
    exact ⟨j2, st2⟩
  · rw [if_neg (by rintro (h | h); omega; exact hot h)]
    have hot' : (ownT C env e.op e.typ e.name e.args.length = t) = False := eq_false hot
    (repeat' (first | simp -implicitDefEqProofs (disch := omega) only [go_sem, ↓reduceIte, q1, q2, q3, Ex.c_eq e, hot', st2.oc] | (((first | with_reducible apply cnd_c | with_reducible apply grd_c | with_reducible apply pck_c) <;> intro wh <;> (try rewrite [wh]) <;> try simp only [wdw] at wh) <;> (try (revert wh; intro _)) <;> try (exfalso; omega)) | refine andi ?_ | fail))
    refine ecall_mc (C.W.ok R e.at_ n2 C.fo (by omega)) ?_ (by omega) ?_
    · exact st2.of_
    (repeat' (first | simp -implicitDefEqProofs (disch := omega) only [go_sem, ↓reduceIte] | (((first | with_reducible apply cnd_c | with_reducible apply grd_c | with_reducible apply pck_c) <;> intro wh <;> (try rewrite [wh]) <;> try simp only [wdw] at wh) <;> (try (revert wh; intro _)) <;> try (exfalso; omega)) | refine andi ?_ | fail))
    exact ⟨j2, st2.tell hC⟩
theorem ty_all_sizes {C : TyC} (hC : TyOk C) : ∀ N, TyW C N
  | 0 => fun e hz => by have := Ex.sz_eq e; omega
  | N + 1 => ty_want hC (ty_all_sizes hC N)
end Go.Proofs.Fathom
set_option linter.unusedVariables false
set_option linter.unusedSimpArgs false
namespace Go.Proofs.Fathom
open Go Go.Proofs
attribute [local irreducible] PSpec CSpec CSpecE
theorem types_tell (s : Int × Int) (a : Int) (n fo : Nat) (h : fo < n) : CS F_types_Check_1 [I a, .ptr fo 0] [(fo, fltO s)] n (.tup []) [(fo, fltO (tellF s 34 a))] n := by
  refine lspec w_types_Check_1 (by simp) (by simp [V.bd, bds]) (by simp [h, AObj.bd, fltO, bds, V.bd]) ?_
  unfold c_types_Check_1 r_types_Check_1
  (repeat' (first | simp -implicitDefEqProofs (disch := omega) only [go_sem, ↓reduceIte, fltO] | (((first | with_reducible apply cnd_c | with_reducible apply grd_c | with_reducible apply pck_c) <;> intro wh <;> (try rewrite [wh]) <;> try simp only [wdw] at wh) <;> (try (revert wh; intro _)) <;> try (exfalso; omega)) | refine andi ?_ | fail))
  all_goals simp [tellF, *]
  rw [if_neg (by omega)]
  exact ⟨rfl, rfl⟩
def chkW : Wr := ⟨F_types_Check_1, Int × Int, fltO, fun s a => tellF s 34 a, fun s n => rfl, types_tell⟩
def opF : List Fn → Nat → List ByteArray × (ByteArray → Int)
  | [], i => ([], fun _ => 0)
  | f :: l, i => (insK (opF l (i + 1)).1 f.name, fun x => if x = f.name then (i : Int) + 1 else (opF l (i + 1)).2 x)
theorem opF_bd : ∀ (l : List Fn) (i : Nat) (k : ByteArray), (opF l i).2 k = 0 ∨ ((i : Int) + 1 ≤ (opF l i).2 k ∧ (opF l i).2 k ≤ i + l.length)
  | [], i, k => .inl rfl
  | f :: l, i, k => by
    have ih := opF_bd l (i + 1) k
    simp only [opF, List.length_cons]
    split <;> omega
theorem types_open_spec (p : List Fn) (hp : p.length ≤ 100000) (fw : FuncId) (fo n : Nat) (hfo : fo < n) : CS F_types_open [progV p, .fn fw [.ptr fo 0]] [] n (.ptr (n + 1) 0)
    [(n + 1, .cells [.map n, .sl .no 11 (p.map Fn.c), .sl .full 3 [], .fn fw [.ptr fo 0]]), (n, .map (opF p 0).1 (opF p 0).2)] (n + 2) := by
  refine cspec' mixed w_types_open (by simp) (by simp [V.bd]) (by omega) ?_ ?_
  · intro q hq
    simp only [List.mem_cons, List.not_mem_nil, or_false] at hq
    rcases hq with rfl | rfl
    · refine ⟨by simp only; omega, ?_⟩
      have := bdss_map (Fn.bd (n + 2)) p
      simp [AObj.bd, bds, V.bd, bdss, this]
      omega
    · exact ⟨by simp only; omega, rfl⟩
  unfold c_types_open r_types_open
  (repeat' (first | simp -implicitDefEqProofs (disch := omega) only [go_sem, ↓reduceIte, progV] | (((first | with_reducible apply cnd_c | with_reducible apply grd_c | with_reducible apply pck_c) <;> intro wh <;> (try rewrite [wh]) <;> try simp only [wdw] at wh) <;> (try (revert wh; intro _)) <;> try (exfalso; omega)) | refine andi ?_ | fail))
  refine loop_o (fun q : Nat => ofL [(2, .cref [.sl .no 11 (p.map Fn.c)]), (5, .ptr (n + 1) 0), (6, I ((q : Int) - 1))]) (fun _ => n + 1 + 1) (fun q => q)
    (fun q ob => q ≤ p.length ∧ ob n = some (.map (opF (p.drop q) q).1 (opF (p.drop q) q).2) ∧ ob (n + 1) = some (.cells [.map n, .sl .no 11 (p.map Fn.c), .sl .full 3 [], .fn fw [.ptr fo 0]])) p.length rfl rfl ⟨Nat.le_refl _, ?_, ?_⟩ fun q ob hq => ?_
  · rw [List.drop_length]
    simp (disch := omega) only [upd_same', upd_ne']
    rfl
  · simp (disch := omega) only [upd_same', upd_ne']
  obtain ⟨hq, o1, o2⟩ := hq
  cases q with
  | zero =>
    (repeat' (first | simp -implicitDefEqProofs (disch := omega) only [go_sem, ↓reduceIte, o1, o2] | (((first | with_reducible apply cnd_c | with_reducible apply grd_c | with_reducible apply pck_c) <;> intro wh <;> (try rewrite [wh]) <;> try simp only [wdw] at wh) <;> (try (revert wh; intro _)) <;> try (exfalso; omega)) | refine andi ?_ | fail))
  | succ q =>
    have hlt : q < p.length := by omega
    have hd := List.drop_eq_getElem_cons hlt
    have e1 : (((q + 1 : Nat) : Int) - 1) = (q : Int) := by omega
    have hg := getq hlt
    generalize p[q] = f at *
    (repeat' (first | simp -implicitDefEqProofs (disch := omega) only [go_sem, ↓reduceIte, o1, o2, e1, hg, Fn.c] | (((first | with_reducible apply cnd_c | with_reducible apply grd_c | with_reducible apply pck_c) <;> intro wh <;> (try rewrite [wh]) <;> try simp only [wdw] at wh) <;> (try (revert wh; intro _)) <;> try (exfalso; omega)) | refine andi ?_ | fail))
    refine ⟨q, ⟨by omega, ?_⟩, by omega, rfl⟩
    rw [hd]
    simp only [opF]
    rfl
def chkC (p : List Fn) (fo hm c : Nat) : TyC := ⟨chkW, fo, hm, c, p, (opF p 0).1, (opF p 0).2⟩
mutual
theorem wrL_n {C D : TyC} (hp : C.p = D.p) (hm : C.mh = D.mh) : (e : Ex) → (env : List Pm) → (t : Int) → wrL C e env t = wrL D e env t
  | .mk o nm tl y r q l a, env, t => by
    have h1 : visC C o nm l.length = visC D o nm l.length := by unfold visC; rw [hp, hm]
    have h2 : ownT C env o y nm l.length = ownT D env o y nm l.length := by unfold ownT; rw [hp, hm]
    rw [wrL, wrL, h1, h2, wrLs_n hp hm l]
  termination_by structural e => e
theorem wrLs_n {C D : TyC} (hp : C.p = D.p) (hm : C.mh = D.mh) : (l : List Ex) → (o y : Int) → (nm tl : ByteArray) → (i : Nat) → (env : List Pm) → (t : Int) → wrLs C l o y nm tl i env t = wrLs D l o y nm tl i env t
  | [], _, _, _, _, _, _, _ => rfl
  | e :: l, o, y, nm, tl, i, env, t => by
    have h2 : parT C o y nm i t = parT D o y nm i t := by unfold parT; rw [hp, hm]
    rw [wrLs, wrLs, h2, wrL_n hp hm e, wrLs_n hp hm l]
  termination_by structural l => l
end
/-- The wrong places of a program's functions. -/
def wrP (p : List Fn) : List Int := p.flatMap fun f => wrL (chkC p 0 0 0) f.body f.params f.typ
/-- What types.Check tells. -/
def tyF (p : List Fn) : Int × Int := if (scF p).1 ≠ 0 then scF p else (wrP p).foldl (fun s a => tellF s 34 a) (scF p)
theorem ty_call1 {C : TyC} (hC : TyOk C) {f : FuncId} {args : List V} {sl : Nat → V} {ob : Obs} {nx nt bs j : Nat} {env : List Pm} {s s' : C.W.σ} {r : V} {K : St → V → Prop} (hj : C.c < j) (hn : j < nx) (oc : ob C.c = some (tyO C j env)) (oj : ob j = some (.row 3 (env.map Pm.c))) (oh : ob C.hm = some (.map C.kh C.mh)) (of_ : ob C.fo = some (C.W.ob s))
    (h : TySpec C [] f (args ++ []) nx j env env s s' r)
    (hk : ∀ (ob' : Obs) n' j', ob' C.c = some (tyO C j' env) → ob' C.hm = some (.map C.kh C.mh) → ob' C.fo = some (C.W.ob s') → nx ≤ n' → (∀ i, i < nx → i ≠ C.c → i ≠ C.hm → i ≠ C.fo → i ≠ j → ob' i = ob i) → K ⟨sl, ob', n', nt, bs⟩ r) : ecallM Tryz.prog (.fn f []) args ⟨sl, ob, nx, nt, bs⟩ K :=
  ty_call hC (n := nx) (j0 := j) ⟨.inl rfl, hj, hj, hn, Nat.le_refl _, hn, oc, oj, oh, of_⟩ h (by simp) fun ob' n' j' st hn' hfr => hk ob' n' j' st.oc st.oh st.of_ hn'.1 hfr
set_option maxHeartbeats 2000000 in
theorem types_Check_spec (p : List Fn) (hp : p.length ≤ 100000) (hf : ∀ f ∈ p, f.params.length + 2 * f.body.sz ≤ 1000000) (hw : ∀ f ∈ p, f.body.wf) : PS F_types_Check [progV p] (.agg [I (tyF p).1, I (tyF p).2]) := by
  refine pspec' mixed w_types_Check (by simp) (by simp [V.bd, bds]) fun n => ?_
  unfold c_types_Check r_types_Check
  have hs := scope_Check_spec p hp hf
  unfold tyF
  by_cases h0 : (scF p).1 = 0
  · rw [if_neg (by omega)]
    have h0' : ((scF p).1 = 0) = True := eq_true h0
    simp only [progV] at hs ⊢
    have hop := types_open_spec p hp F_types_Check_1 (n + 1) (n + 1 + 1) (by omega)
    (repeat' (first | simp -implicitDefEqProofs (disch := omega) only [go_sem, ↓reduceIte, h0'] | (((first | with_reducible apply cnd_c | with_reducible apply grd_c | with_reducible apply pck_c) <;> intro wh <;> (try rewrite [wh]) <;> try simp only [wdw] at wh) <;> (try (revert wh; intro _)) <;> try (exfalso; omega)) | refine andi ?_ | ((with_reducible refine callM_id ?_); refine callM_i hs ?_) | fail))
    have hC : TyOk (chkC p (n + 1) (n + 1 + 1) (n + 1 + 1 + 1)) := ⟨by simp only [chkC]; omega, by simp only [chkC]; omega, hp, fun k => by
      have := opF_bd p 0 k
      simp only [chkC]
      omega⟩
    have hwp : wrP p = p.flatMap fun f => wrL (chkC p (n + 1) (n + 1 + 1) (n + 1 + 1 + 1)) f.body f.params f.typ := by
      unfold wrP
      congr 1
      funext f
      exact wrL_n (C := chkC p 0 0 0) (D := chkC p (n + 1) (n + 1 + 1) (n + 1 + 1 + 1)) rfl rfl _ _ _
    rw [hwp]
    refine ecall_n hop (by simp) (by omega) ?_
    generalize hR : (p.flatMap fun f => wrL (chkC p (n + 1) (n + 1 + 1) (n + 1 + 1 + 1)) f.body f.params f.typ).foldl (fun s a => tellF s 34 a) (scF p) = R
    (repeat' (first | simp -implicitDefEqProofs (disch := omega) only [go_sem, ↓reduceIte] | (((first | with_reducible apply cnd_c | with_reducible apply grd_c | with_reducible apply pck_c) <;> intro wh <;> (try rewrite [wh]) <;> try simp only [wdw] at wh) <;> (try (revert wh; intro _)) <;> try (exfalso; omega)) | refine andi ?_ | fail))
    refine loop_o (fun q : Nat × (Int × Int) × V × Nat => ofL [(2, .ptr n 0), (3, .ptr (n + 1) 0), (4, .ptr (n + 1 + 1 + 1) 0), (17, .sl .no 11 (p.map Fn.c)), (18, I p.length), (19, I q.1)]) (fun q => q.2.2.2) (fun q => p.length - q.1)
      (fun q ob => q.1 ≤ p.length ∧ ((p.drop q.1).flatMap fun f => wrL (chkC p (n + 1) (n + 1 + 1) (n + 1 + 1 + 1)) f.body f.params f.typ).foldl (fun s a => tellF s 34 a) q.2.1 = R ∧ n + 4 ≤ q.2.2.2 ∧ ob n = some (.cells [I 0, I 0]) ∧ ob (n + 1) = some (fltO q.2.1) ∧ ob (n + 1 + 1) = some (.map (opF p 0).1 (opF p 0).2) ∧
        ob (n + 1 + 1 + 1) = some (.cells [.map (n + 1 + 1), .sl .no 11 (p.map Fn.c), q.2.2.1, .fn F_types_Check_1 [.ptr (n + 1) 0]])) (0, scF p, .sl .full 3 [], n + 1 + 1 + 2) rfl rfl ⟨Nat.zero_le _, hR, by simp only; omega, ?_, ?_, ?_, ?_⟩ fun q ob hq => ?_
    · simp (disch := omega) only [upd_same', upd_ne']
    · simp (disch := omega) only [upd_same', upd_ne', fltO]
    · simp (disch := omega) only [upd_same', upd_ne']
    · simp (disch := omega) only [upd_same', upd_ne']
    obtain ⟨i, s, v, y⟩ := q
    simp only at hq ⊢
    obtain ⟨hi, hfin, hy, o1, o2, o3, o4⟩ := hq
    (simp -implicitDefEqProofs (disch := omega) only [go_sem, ↓reduceIte])
    ((first | with_reducible apply cnd_c | with_reducible apply grd_c | with_reducible apply pck_c) <;> intro h <;> (try rewrite [h]) <;> try simp only [wdw] at h)
    · rw [List.drop_eq_nil_of_le (by omega)] at hfin
      simp only [List.flatMap_nil, List.foldl_nil] at hfin
      subst hfin
      (repeat' (first | simp -implicitDefEqProofs (disch := omega) only [go_sem, ↓reduceIte, o1, o2, fltO] | (((first | with_reducible apply cnd_c | with_reducible apply grd_c | with_reducible apply pck_c) <;> intro wh <;> (try rewrite [wh]) <;> try simp only [wdw] at wh) <;> (try (revert wh; intro _)) <;> try (exfalso; omega)) | refine andi ?_ | fail))
    · have hlt : i < p.length := by omega
      rw [List.drop_eq_getElem_cons hlt] at hfin
      simp only [List.flatMap_cons, List.foldl_append] at hfin
      have hfi := hf _ (List.getElem_mem hlt)
      have hwi := hw _ (List.getElem_mem hlt)
      have hg := getq hlt
      generalize p[i] = f at *
      (repeat' (first | simp -implicitDefEqProofs (disch := omega) only [go_sem, ↓reduceIte, hg, Fn.c, o4] | (((first | with_reducible apply cnd_c | with_reducible apply grd_c | with_reducible apply pck_c) <;> intro wh <;> (try rewrite [wh]) <;> try simp only [wdw] at wh) <;> (try (revert wh; intro _)) <;> try (exfalso; omega)) | refine andi ?_ | fail))
      rw [← Ex.c_eq f.body]
      have hwn := ty_all_sizes hC f.body.sz f.body (Nat.le_refl _) hwi (y + 1 + 1) (y + 1) f.params f.typ s (by simp only [chkC]; omega) (by omega) hfi
      refine ty_call1 hC (C := chkC p (n + 1) (n + 1 + 1) (n + 1 + 1 + 1)) (j := y + 1) (env := f.params) (s := s) (by simp only [chkC]; omega) (by omega) ?_ ?_ ?_ ?_ hwn ?_
      · simp (disch := omega) only [chkC, upd_same', upd_ne', tyO, chkW]
      · simp (disch := omega) only [chkC, upd_same', upd_ne']
      · simp (disch := omega) only [chkC, upd_same', upd_ne', o3]
      · simp (disch := omega) only [chkC, upd_same', upd_ne', o2, chkW]
      intro ob' n' j' p1 p2 p3 hn' hfr
      (repeat' (first | simp -implicitDefEqProofs (disch := omega) only [go_sem, ↓reduceIte] | (((first | with_reducible apply cnd_c | with_reducible apply grd_c | with_reducible apply pck_c) <;> intro wh <;> (try rewrite [wh]) <;> try simp only [wdw] at wh) <;> (try (revert wh; intro _)) <;> try (exfalso; omega)) | refine andi ?_ | fail))
      refine ⟨(i + 1, wnS (chkC p (n + 1) (n + 1 + 1) (n + 1 + 1 + 1)) f.body f.params f.typ s, .row j' f.params.length 3 0 f.params.length, n'), ⟨by simp only; omega, hfin, by simp only; omega, ?_, p3, p2, p1⟩, by simp only; omega, rfl, rfl⟩
      rw [hfr n (by omega) (by simp only [chkC]; omega) (by simp only [chkC]; omega) (by simp only [chkC]; omega) (by omega)]
      simp (disch := omega) only [upd_same', upd_ne', o1]
  · rw [if_pos h0]
    have h0' : ((scF p).1 = 0) = False := eq_false h0
    simp only [progV] at hs ⊢
    (repeat' (first | simp -implicitDefEqProofs (disch := omega) only [go_sem, ↓reduceIte, h0'] | (((first | with_reducible apply cnd_c | with_reducible apply grd_c | with_reducible apply pck_c) <;> intro wh <;> (try rewrite [wh]) <;> try simp only [wdw] at wh) <;> (try (revert wh; intro _)) <;> try (exfalso; omega)) | refine andi ?_ | ((with_reducible refine callM_id ?_); refine callM_i hs ?_) | fail))
    omega
end Go.Proofs.Fathom
