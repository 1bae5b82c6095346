/- A part of the proof of 'Rows.QueryReadUptoSaid': for every text and every seeds (of bulk at most 1048576 together) fathomlaw19.QueryRead returns true and its arguments read afterwards as before. -/
import Derived.Test.YtaikjbfkbijlnaaGreatF36
set_option linter.unusedVariables false
set_option linter.unusedSimpArgs false
set_option linter.unusedSectionVars false
namespace Go.Proofs.Fathom
open Go Go.Proofs
attribute [local irreducible] PSpec CSpec
theorem ecall_m2 {P : Program} {f : FuncId} {args : List V} {sl : Nat → V} {ob : Obs} {nx nt bs i j : Nat} {K : St → V → Prop} {r : V} {o o' p p' : AObj} (h : CSpec P f (args ++ []) [(i, o), (j, p)] nx r [(i, o'), (j, p')] nx) (ho : ob i = some o) (hp : ob j = some p) (hi : i < nx) (hj : j < nx)
    (hk : K ⟨sl, upd (upd ob j (some p')) i (some o'), nx, nt, bs⟩ r) : ecallM P (.fn f []) args ⟨sl, ob, nx, nt, bs⟩ K := by
  refine ecall_c h ?_ ?_ ?_ (Nat.le_refl _) ?_
  · intro q hq
    simp only [List.mem_cons, List.not_mem_nil, or_false] at hq
    rcases hq with rfl | rfl
    · exact ho
    · exact hp
  · intro q hq
    simp only [List.mem_cons, List.not_mem_nil, or_false] at hq
    rcases hq with rfl | rfl
    · exact ⟨o', by simp⟩
    · exact ⟨p', by simp⟩
  · intro q hq
    simp only [List.mem_cons, List.not_mem_nil, or_false] at hq
    rcases hq with rfl | rfl
    · exact ⟨hi, .inl ⟨o, by simp⟩⟩
    · exact ⟨hj, .inl ⟨p, by simp⟩⟩
  · exact hk
theorem rd_ld41 {ms : List Mk} {s : Rs} {K : V → Prop} : ldO (some (rdO ms s)) (4 + 1) 1 false K = K (I 32768) := rd_ld5
theorem rd_ld42 {ms : List Mk} {s : Rs} {K : V → Prop} : ldO (some (rdO ms s)) (4 + 2) 1 false K = K (I 32768) := rd_ld6
theorem rd_ld43 {ms : List Mk} {s : Rs} {K : V → Prop} : ldO (some (rdO ms s)) (4 + 3) 1 false K = K (I 32768) := rd_ld7
attribute [go_sem] rd_ld41 rd_ld42 rd_ld43
def fullO (e : Ex) : AObj := .cells [.int .i64 e.op, .str e.name, .str e.tail, .int .i64 e.typ, .cpx e.re e.im, .sl .full 7 (Ex.cs e.args), .int .i64 e.at_]
theorem mspec2 {f : FuncId} {ac : ACode} {res : List ARes} {nt : Nat} (hf : FnW Tryz.prog f ac res nt) {args : List V} {r : V} {ms : List Mk} {s s' : Rs} {o o' : AObj} {n i j : Nat} (hij : i ≠ j) (hi : i < n) (hj : j < n) (hlen : args.length ≤ nt) (hr : r.bd n = true) (ho : o'.bd n = true)
    (h : awp Tryz.prog ac (retK res fun S v => v = r ∧ n ≤ S.nx ∧ S.ob i = some (rdO ms s') ∧ S.ob j = some o') ⟨ofL (argL 0 args), upd (upd (fun _ => none) j (some o)) i (some (rdO ms s)), n, nt, n⟩) : CS f args [(i, rdO ms s), (j, o)] n r [(i, rdO ms s'), (j, o')] n := by
  refine cspec' mixed hf hlen hr (Nat.le_refl _) (fun p hp => ?_) ?_
  · simp only [List.mem_cons, List.not_mem_nil, or_false] at hp
    rcases hp with rfl | rfl
    · exact ⟨hi, rdO_bd n ms s'⟩
    · exact ⟨hj, ho⟩
  · have e : (fun (S : St) v => v = r ∧ n ≤ S.nx ∧ ∀ p ∈ [(i, rdO ms s'), (j, o')], S.ob p.1 = some p.2) = fun S v => v = r ∧ n ≤ S.nx ∧ S.ob i = some (rdO ms s') ∧ S.ob j = some o' := by
      funext S v
      simp
    rw [e]
    exact h
section
variable {ms : List Mk} (hm : MsOk ms)
include hm
theorem wk_parts {k : Nat} (W : ∀ j, j ≤ k → Wk ms j) (s : Rs) (l : List ByteArray) (ha : Ri ms s) (hk : 12 * mu ms s + 9 + l.length ≤ k + 1) (hl3 : l.length ≤ 3) (q : Tok) (n i : Nat) (hi : i < n) : CS F_fathomref04_reader_parts [.ptr i 0, .sl q 1 (strs l)] [(i, rdO ms s)] n (.sl .no 7 (Ex.cs (partsR ms (k + 1) s l).1)) [(i, rdO ms (partsR ms (k + 1) s l).2)] n := by
  have hml := hm.len
  have hl := ha.lt
  refine mspec w_fathomref04_reader_parts hi (by simp) (by simp [V.bd, Ex.bdss]) ?_
  unfold c_fathomref04_reader_parts r_fathomref04_reader_parts
  generalize hR : partsR ms (k + 1) s l = R
  (repeat' (first | simp -implicitDefEqProofs (disch := omega) only [go_sem, ↓reduceIte] | (((first | with_reducible apply cnd_c | with_reducible apply grd_c | with_reducible apply pck_c) <;> intro wh <;> (try rewrite [wh]) <;> try simp only [wdw] at wh) <;> (try (revert wh; intro _)) <;> try (exfalso; omega)) | refine andi ?_ | fail))
  refine loop_o (fun t : Nat × Nat × List Ex × Rs × Nat => ofL [(0, .ptr i 0), (1, .sl q 1 (strs l)), (5, .sl (.tip n) 7 (Ex.cs t.2.2.1)), (6, I t.2.1)]) (fun t => t.2.2.2.2) (fun t => t.1)
    (fun t ob => t.1 ≤ k + 1 ∧ 12 * mu ms t.2.2.2.1 + 9 + (l.length - t.2.1) ≤ t.1 ∧ t.2.1 ≤ l.length ∧ t.2.2.1.length = t.2.1 ∧ Ri ms t.2.2.2.1 ∧ t.2.2.1 ++ (partsR ms t.1 t.2.2.2.1 (l.drop t.2.1)).1 = R.1 ∧ (partsR ms t.1 t.2.2.2.1 (l.drop t.2.1)).2 = R.2 ∧ n + 1 ≤ t.2.2.2.2 ∧ ob i = some (rdO ms t.2.2.2.1) ∧ ob n = some (.tip 7 t.2.2.1.length))
    (k + 1, 0, [], s, n + 1) (by simp [Ex.cs]) rfl ⟨Nat.le_refl _, by simp only; omega, by simp only; omega, rfl, ha, by rw [← hR]; rfl, by rw [← hR]; rfl, by simp only; omega, ?_, ?_⟩ fun t ob ht => ?_
  · simp (disch := omega) only [upd_same', upd_ne']
  · simp (disch := omega) only [upd_same', upd_ne']
    rfl
  obtain ⟨p, j, o, t, y⟩ := t
  simp only at ht ⊢
  obtain ⟨hp, hmu, hj, hol, hr, hf1, hf2, hy, ho1, ho2⟩ := ht
  obtain ⟨p, rfl⟩ : ∃ q, p = q + 1 := ⟨p - 1, by omega⟩
  have hl2 := hr.lt
  by_cases hjl : j < l.length
  · rw [List.drop_eq_getElem_cons hjl] at hf1 hf2
    simp only [partsR] at hf1 hf2
    have p1 : Pt ms t (if l[j] = tkNo then t else wantR ms t l[j]) 0 := by
      split
      · exact Pt.refl hl2
      · exact (want_pt hm hl2 _).mono (by omega)
    have m1 := p1.mu
    have h2 := (W p (by omega)).expr _ (hr.step p1) (by omega)
    have g2 := (al hm p).expr _ p1.lt (by omega)
    have m2 := g2.1.mu
    have hru := (hr.step p1).step g2.1
    have hcs : ∀ x, Ex.cs o ++ [Ex.c x] = Ex.cs (o ++ [x]) := fun x => by simp [Ex.cs_eq]
    have hw2 := fun n (hi : i < n) => r_want hm (n := n) hi hl2 l[j]
    by_cases hno : l[j] = tkNo
    · rw [if_pos hno] at *
      generalize exprR ms p t = c at *
      obtain ⟨c, u⟩ := c
      simp only at h2 g2 hf1 hf2 m2 hru
      have hno' : (l[j] = ⟨#[]⟩) = True := eq_true hno
      (repeat' (first | simp -implicitDefEqProofs (disch := omega) only [go_sem, ↓reduceIte, Mk.c, getq hjl, ho1, ho2, hol, hcs, hno'] | (((first | with_reducible apply cnd_c | with_reducible apply grd_c | with_reducible apply pck_c) <;> intro wh <;> (try rewrite [wh]) <;> try simp only [wdw] at wh) <;> (try (revert wh; intro _)) <;> try (exfalso; omega)) | refine andi ?_ | ((with_reducible refine callM_id ?_); refine callM_i (h2.m (by omega)) ?_) | ((with_reducible refine ecallM_id ?_); refine ecall_ma (h2.m (by omega)) ?_) | fail))
      refine ⟨(p, j + 1, o ++ [c], u, y + 1), ⟨by simp only; omega, by simp only; omega, by simp only; omega, by simp [hol], hru, by simpa using hf1, hf2, by simp only; omega, rfl, by simp [hol]⟩, by simp only; omega, rfl, rfl⟩
    · rw [if_neg hno] at *
      generalize exprR ms p (wantR ms t l[j]) = c at *
      obtain ⟨c, u⟩ := c
      simp only at h2 g2 hf1 hf2 m2 hru
      have hno' : (l[j] = ⟨#[]⟩) = False := eq_false hno
      (repeat' (first | simp -implicitDefEqProofs (disch := omega) only [go_sem, ↓reduceIte, Mk.c, getq hjl, ho1, ho2, hol, hcs, hno'] | (((first | with_reducible apply cnd_c | with_reducible apply grd_c | with_reducible apply pck_c) <;> intro wh <;> (try rewrite [wh]) <;> try simp only [wdw] at wh) <;> (try (revert wh; intro _)) <;> try (exfalso; omega)) | refine andi ?_ | ((with_reducible refine callM_id ?_); refine callM_i (hw2 _ (by omega)) ?_) | ((with_reducible refine ecallM_id ?_); refine ecall_ma (hw2 _ (by omega)) ?_) | ((with_reducible refine callM_id ?_); refine callM_i (h2.m (by omega)) ?_) | ((with_reducible refine ecallM_id ?_); refine ecall_ma (h2.m (by omega)) ?_) | fail))
      refine ⟨(p, j + 1, o ++ [c], u, y + 1), ⟨by simp only; omega, by simp only; omega, by simp only; omega, by simp [hol], hru, by simpa using hf1, hf2, by simp only; omega, rfl, by simp [hol]⟩, by simp only; omega, rfl, rfl⟩
  · have hjn : j = l.length := by omega
    rw [List.drop_eq_nil_of_le (by omega)] at hf1 hf2
    simp only [partsR, List.append_nil] at hf1 hf2
    rw [← hf1, ← hf2]
    (repeat' (first | simp -implicitDefEqProofs (disch := omega) only [go_sem, ↓reduceIte, ho1] | (((first | with_reducible apply cnd_c | with_reducible apply grd_c | with_reducible apply pck_c) <;> intro wh <;> (try rewrite [wh]) <;> try simp only [wdw] at wh) <;> (try (revert wh; intro _)) <;> try (exfalso; omega)) | refine andi ?_ | fail))
    omega
theorem wk_branch {k : Nat} (W : Wk ms k) (s : Rs) (at_ : Int) (ha : Ri ms s) (hk : 12 * mu ms s + 10 ≤ k + 1) (n i j : Nat) (hij : i ≠ j) (hi : i < n) (hj : j < n) :
    CS F_fathomref04_reader_branches [.ptr i 0, .ptr j 0] [(i, rdO ms s), (j, .cells [.int .i64 0, .str ⟨#[]⟩, .str ⟨#[]⟩, .int .i64 0, .cpx 0 0, .sl .full 7 [], .int .i64 at_])] n (.tup []) [(i, rdO ms (branchR ms (k + 1) s at_).2), (j, fullO (branchR ms (k + 1) s at_).1)] n := by
  have hml := hm.len
  have hl := ha.lt
  refine mspec2 w_fathomref04_reader_branches hij hi hj (by simp) (by simp [V.bd, bds]) (by simp [AObj.bd, fullO, bds, V.bd, Ex.bdss]) ?_
  unfold c_fathomref04_reader_branches r_fathomref04_reader_branches
  simp only [branchR]
  have h1 := W.expr s ha (by omega)
  have g1 := (al hm k).expr s ha.lt (by omega)
  generalize exprR ms k s = x at *
  obtain ⟨x, s1⟩ := x
  simp only at h1 g1 ⊢
  have p2 := want_pt hm g1.1.lt tkOf
  have p3 := want_pt hm p2.lt tkNil
  have p4 := want_pt hm p3.lt tkArr
  have pp := ((g1.1.trans p2).trans p3).trans p4
  have m4 := pp.mu
  have h5 := W.expr _ (ha.step pp) (by omega)
  have g5 := (al hm k).expr _ p4.lt (by omega)
  simp only at h5 g5 p2 p3 p4 pp
  generalize exprR ms k (wantR ms (wantR ms (wantR ms s1 tkOf) tkNil) tkArr) = a at *
  obtain ⟨a, s2⟩ := a
  simp only at h5 g5 ⊢
  have p6 := want_pt hm g5.1.lt tkBar
  have p7 := name_pt hm p6.lt
  have p8 := want_pt hm p7.lt tkCol
  have p9 := name_pt hm p8.lt
  have p10 := want_pt hm p9.lt tkArr
  have pq := (((((pp.trans g5.1).trans p6).trans p7).trans p8).trans p9).trans p10
  have m10 := pq.mu
  have h11 := W.expr _ (ha.step pq) (by omega)
  have g11 := (al hm k).expr _ p10.lt (by omega)
  simp only at h11 g11 p6 p7 p8 p9 p10
  generalize exprR ms k (wantR ms (nameR ms (wantR ms (nameR ms (wantR ms s2 tkBar)).2 tkCol)).2 tkArr) = b at *
  obtain ⟨b, s3⟩ := b
  simp only at h11 g11 ⊢
  have hl1 : s1.at_ < ms.length := g1.1.lt
  have hl2 : s2.at_ < ms.length := g5.1.lt
  (repeat' (first | simp -implicitDefEqProofs (disch := omega) only [go_sem, ↓reduceIte, Mk.c] | (((first | with_reducible apply cnd_c | with_reducible apply grd_c | with_reducible apply pck_c) <;> intro wh <;> (try rewrite [wh]) <;> try simp only [wdw] at wh) <;> (try (revert wh; intro _)) <;> try (exfalso; omega)) | refine andi ?_ | ((with_reducible refine callM_id ?_); refine callM_i (h1.m (by omega)) ?_) | ((with_reducible refine ecallM_id ?_); refine ecall_ma (h1.m (by omega)) ?_) | ((with_reducible refine callM_id ?_); refine callM_i (r_want hm (by omega) hl1 tkOf) ?_) | ((with_reducible refine ecallM_id ?_); refine ecall_ma (r_want hm (by omega) hl1 tkOf) ?_) | ((with_reducible refine callM_id ?_); refine callM_i (r_want hm (by omega) p2.lt tkNil) ?_) | ((with_reducible refine ecallM_id ?_); refine ecall_ma (r_want hm (by omega) p2.lt tkNil) ?_) | ((with_reducible refine callM_id ?_); refine callM_i (r_want hm (by omega) p3.lt tkArr) ?_) | ((with_reducible refine ecallM_id ?_); refine ecall_ma (r_want hm (by omega) p3.lt tkArr) ?_) | ((with_reducible refine callM_id ?_); refine callM_i (h5.m (by omega)) ?_) | ((with_reducible refine ecallM_id ?_); refine ecall_ma (h5.m (by omega)) ?_) | ((with_reducible refine callM_id ?_); refine callM_i (r_want hm (by omega) hl2 tkBar) ?_) | ((with_reducible refine ecallM_id ?_); refine ecall_ma (r_want hm (by omega) hl2 tkBar) ?_) | ((with_reducible refine callM_id ?_); refine callM_i (r_name hm (by omega) p6.lt) ?_) | ((with_reducible refine ecallM_id ?_); refine ecall_ma (r_name hm (by omega) p6.lt) ?_) | ((with_reducible refine callM_id ?_); refine callM_i (r_want hm (by omega) p7.lt tkCol) ?_) | ((with_reducible refine ecallM_id ?_); refine ecall_ma (r_want hm (by omega) p7.lt tkCol) ?_) | ((with_reducible refine callM_id ?_); refine callM_i (r_name hm (by omega) p8.lt) ?_) | ((with_reducible refine ecallM_id ?_); refine ecall_ma (r_name hm (by omega) p8.lt) ?_) | ((with_reducible refine callM_id ?_); refine callM_i (r_want hm (by omega) p9.lt tkArr) ?_) | ((with_reducible refine ecallM_id ?_); refine ecall_ma (r_want hm (by omega) p9.lt tkArr) ?_) | ((with_reducible refine callM_id ?_); refine callM_i (h11.m (by omega)) ?_) | ((with_reducible refine ecallM_id ?_); refine ecall_ma (h11.m (by omega)) ?_) | fail))
  simp [fullO, Ex.op, Ex.name, Ex.tail, Ex.typ, Ex.re, Ex.im, Ex.args, Ex.at_, Ex.cs]
set_option maxHeartbeats 4000000 in
set_option maxRecDepth 20000 in
theorem wk_expr {k : Nat} (W : ∀ j, j ≤ k → Wk ms j) (s : Rs) (ha : Ri ms s) (hk : 12 * mu ms s + 9 ≤ k + 1) : MW ms F_fathomref04_reader_expr [] s (exprR ms (k + 1) s) := by
  have hml := hm.len
  have hl := ha.lt
  have hn0 := ha.n0
  have hn1 := ha.n1
  intro n i hi
  refine mspec w_fathomref04_reader_expr hi (by simp) (by simp [V.bd, Ex.bd]) ?_
  unfold c_fathomref04_reader_expr r_fathomref04_reader_expr
  simp only [exprR]
  have i1 := fun n (hi : i < n) => r_is (n := n) hi hl tkLet
  have i2 := fun n (hi : i < n) => r_is (n := n) hi hl tkStrict
  have i3 := fun n (hi : i < n) => r_is (n := n) hi hl tkCase
  have i4 := fun n (hi : i < n) => r_is (n := n) hi hl tkIf
  by_cases hB : bindsB ms s = true
  · have hw : s.why = 0 := by
      simp only [bindsB, Bool.or_eq_true] at hB
      rcases hB with (hb | hb) | hb <;> exact (isB_kind hb).1
    have p1 : Pt ms s (adv s) 1 := by
      simp only [bindsB, Bool.or_eq_true] at hB
      rcases hB with (hb | hb) | hb <;> exact isB_pt hm hl hb
    have m1 := p1.mu1 hw
    have hw' : (s.why = 0) = True := eq_true hw
    simp only [hB, true_and, if_true]
    by_cases hn : 32768 ≤ s.nest
    · rw [if_pos hn]
      have hf : ((failR ms s 23).why = 0) = False := eq_false (fail_why (by omega))
      have hfl : (failR ms s 23).at_ < ms.length := (fail_pt hl (w := 23) (by omega) 0).lt
      cases h1 : isB ms s tkLet
      · cases h2 : isB ms s tkStrict
        · have h3 : isB ms s tkCase = true := by simpa [bindsB, h1, h2] using hB
          rw [h1] at i1
          rw [h2] at i2
          rw [h3] at i3
          (repeat' (first | simp -implicitDefEqProofs (disch := omega) only [go_sem, ↓reduceIte, Mk.c, hf] | (((first | with_reducible apply cnd_c | with_reducible apply grd_c | with_reducible apply pck_c) <;> intro wh <;> (try rewrite [wh]) <;> try simp only [wdw] at wh) <;> (try (revert wh; intro _)) <;> try (exfalso; omega)) | refine andi ?_ | ((with_reducible refine callM_id ?_); refine callM_i (r_next (by omega) hl) ?_) | ((with_reducible refine ecallM_id ?_); refine ecall_ma (r_next (by omega) hl) ?_) | ((with_reducible refine callM_id ?_); refine callM_i (i1 _ (by omega)) ?_) | ((with_reducible refine ecallM_id ?_); refine ecall_ma (i1 _ (by omega)) ?_) | ((with_reducible refine callM_id ?_); refine callM_i (i2 _ (by omega)) ?_) | ((with_reducible refine ecallM_id ?_); refine ecall_ma (i2 _ (by omega)) ?_) | ((with_reducible refine callM_id ?_); refine callM_i (i3 _ (by omega)) ?_) | ((with_reducible refine ecallM_id ?_); refine ecall_ma (i3 _ (by omega)) ?_) | ((with_reducible refine callM_id ?_); refine callM_i (r_fail (by omega) hl 23) ?_) | ((with_reducible refine ecallM_id ?_); refine ecall_ma (r_fail (by omega) hl 23) ?_) | fail))
          exact ⟨by simp [noEx, Ex.c, Ex.cs, tkNo], by omega⟩
        · rw [h1] at i1
          rw [h2] at i2
          (repeat' (first | simp -implicitDefEqProofs (disch := omega) only [go_sem, ↓reduceIte, Mk.c, hf] | (((first | with_reducible apply cnd_c | with_reducible apply grd_c | with_reducible apply pck_c) <;> intro wh <;> (try rewrite [wh]) <;> try simp only [wdw] at wh) <;> (try (revert wh; intro _)) <;> try (exfalso; omega)) | refine andi ?_ | ((with_reducible refine callM_id ?_); refine callM_i (r_next (by omega) hl) ?_) | ((with_reducible refine ecallM_id ?_); refine ecall_ma (r_next (by omega) hl) ?_) | ((with_reducible refine callM_id ?_); refine callM_i (i1 _ (by omega)) ?_) | ((with_reducible refine ecallM_id ?_); refine ecall_ma (i1 _ (by omega)) ?_) | ((with_reducible refine callM_id ?_); refine callM_i (i2 _ (by omega)) ?_) | ((with_reducible refine ecallM_id ?_); refine ecall_ma (i2 _ (by omega)) ?_) | ((with_reducible refine callM_id ?_); refine callM_i (r_fail (by omega) hl 23) ?_) | ((with_reducible refine ecallM_id ?_); refine ecall_ma (r_fail (by omega) hl 23) ?_) | fail))
          exact ⟨by simp [noEx, Ex.c, Ex.cs, tkNo], by omega⟩
      · rw [h1] at i1
        (repeat' (first | simp -implicitDefEqProofs (disch := omega) only [go_sem, ↓reduceIte, Mk.c, hf] | (((first | with_reducible apply cnd_c | with_reducible apply grd_c | with_reducible apply pck_c) <;> intro wh <;> (try rewrite [wh]) <;> try simp only [wdw] at wh) <;> (try (revert wh; intro _)) <;> try (exfalso; omega)) | refine andi ?_ | ((with_reducible refine callM_id ?_); refine callM_i (r_next (by omega) hl) ?_) | ((with_reducible refine ecallM_id ?_); refine ecall_ma (r_next (by omega) hl) ?_) | ((with_reducible refine callM_id ?_); refine callM_i (i1 _ (by omega)) ?_) | ((with_reducible refine ecallM_id ?_); refine ecall_ma (i1 _ (by omega)) ?_) | ((with_reducible refine callM_id ?_); refine callM_i (r_fail (by omega) hl 23) ?_) | ((with_reducible refine ecallM_id ?_); refine ecall_ma (r_fail (by omega) hl 23) ?_) | fail))
        exact ⟨by simp [noEx, Ex.c, Ex.cs, tkNo], by omega⟩
    · rw [if_neg hn, if_neg (by omega)]
      have hn' : (32768 ≤ s.nest) = False := eq_false hn
      have hru : Ri ms (adv (upN s 1)) := ⟨p1.lt, by simp only [adv, upN]; omega, by simp only [adv, upN]; omega⟩
      have hmu : mu ms (adv (upN s 1)) = mu ms (adv s) := rfl
      generalize hs1 : adv (upN s 1) = s1 at *
      have hl1 := hru.lt
      have hs1' : (⟨s.at_ + 1, s.why, s.whr, s.nest + 1⟩ : Rs) = s1 := hs1
      obtain ⟨k, rfl⟩ : ∃ p, k = p + 1 := ⟨k - 1, by omega⟩
      by_cases h3 : isB ms s tkCase = true
      · have ht := (isB_kind h3).2.2
        have h1 : isB ms s tkLet = false := by
          cases h : isB ms s tkLet
          · rfl
          · exact absurd (ht.symm.trans (isB_kind h).2.2) (by decide)
        have h2 : isB ms s tkStrict = false := by
          cases h : isB ms s tkStrict
          · rfl
          · exact absurd (ht.symm.trans (isB_kind h).2.2) (by decide)
        rw [h1] at i1
        rw [h2] at i2
        rw [h3] at i3
        have e1 : ((nxt ms s).text = ⟨#[105, 102]⟩) = False := eq_false (by rw [ht]; decide)
        have e2 : ((nxt ms s).text = ⟨#[99, 97, 115, 101]⟩) = True := eq_true ht
        obtain ⟨k, rfl⟩ : ∃ p, k = p + 1 := ⟨k - 1, by omega⟩
        have hbr := fun n j hj hi hi2 => wk_branch hm (W k (by omega)) s1 (nxt ms s).at_ hru (by omega) n i j hj hi hi2
        have gbr := (al hm (k + 1)).branch s1 (nxt ms s).at_ hru.lt (by omega)
        simp only [bindR, if_pos ht]
        generalize branchR ms (k + 1) s1 (nxt ms s).at_ = r at *
        obtain ⟨e, s2⟩ := r
        have hne : s2.nest = s1.nest := gbr.1.nest
        have hnn : s1.nest = s.nest + 1 := by rw [← hs1]; rfl
        simp only at hbr ⊢
        (repeat' (first | simp -implicitDefEqProofs (disch := omega) only [go_sem, ↓reduceIte, Mk.c, hn', hw', e1, e2] | (((first | with_reducible apply cnd_c | with_reducible apply grd_c | with_reducible apply pck_c) <;> intro wh <;> (try rewrite [wh]) <;> try simp only [wdw] at wh) <;> (try (revert wh; intro _)) <;> try (exfalso; omega)) | refine andi ?_ | ((with_reducible refine callM_id ?_); refine callM_i (r_next (by omega) hl) ?_) | ((with_reducible refine ecallM_id ?_); refine ecall_ma (r_next (by omega) hl) ?_) | ((with_reducible refine callM_id ?_); refine callM_i (i1 _ (by omega)) ?_) | ((with_reducible refine ecallM_id ?_); refine ecall_ma (i1 _ (by omega)) ?_) | ((with_reducible refine callM_id ?_); refine callM_i (i2 _ (by omega)) ?_) | ((with_reducible refine ecallM_id ?_); refine ecall_ma (i2 _ (by omega)) ?_) | ((with_reducible refine callM_id ?_); refine callM_i (i3 _ (by omega)) ?_) | ((with_reducible refine ecallM_id ?_); refine ecall_ma (i3 _ (by omega)) ?_) | fail))
        rw [hs1']
        refine ecall_m2 (hbr _ _ (by omega) (by omega) (by omega)) ?_ ?_ (by omega) (by omega) ?_
        · simp (disch := omega) only [upd_same', upd_ne']
        · simp (disch := omega) only [upd_same', upd_ne']
        (repeat' (first | simp -implicitDefEqProofs (disch := omega) only [go_sem, ↓reduceIte, fullO] | (((first | with_reducible apply cnd_c | with_reducible apply grd_c | with_reducible apply pck_c) <;> intro wh <;> (try rewrite [wh]) <;> try simp only [wdw] at wh) <;> (try (revert wh; intro _)) <;> try (exfalso; omega)) | refine andi ?_ | fail))
        exact ⟨by rw [Ex.c_eq], by omega, rfl⟩
      · have h3 : isB ms s tkCase = false := by simpa using h3
        rw [h3] at i3
        have q1 := name_pt hm hl1
        have q2 := (typ_pt hm q1.lt).1
        have mq := (q1.trans q2).mu
        have hpt := (W k (by omega)).parts (typR ms (nameR ms s1).2).2 [tkIs, tkIn] (by simp) ((hru.step q1).step q2) (by simp only [List.length_cons, List.length_nil]; omega)
        have gpt := (al hm k).parts (typR ms (nameR ms s1).2).2 [tkIs, tkIn] q2.lt (by simp only [List.length_cons, List.length_nil]; omega)
        cases h1 : isB ms s tkLet
        · have h2 : isB ms s tkStrict = true := by simpa [bindsB, h1, h3] using hB
          have ht := (isB_kind h2).2.2
          rw [h1] at i1
          rw [h2] at i2
          have e1 : ((nxt ms s).text = ⟨#[105, 102]⟩) = False := eq_false (by rw [ht]; decide)
          have e2 : ((nxt ms s).text = ⟨#[99, 97, 115, 101]⟩) = False := eq_false (by rw [ht]; decide)
          have e3 : ((nxt ms s).text = ⟨#[115, 116, 114, 105, 99, 116]⟩) = True := eq_true ht
          simp only [bindR, if_neg (show ¬ (nxt ms s).text = tkCase by rw [ht]; decide), if_pos (show (nxt ms s).text = tkStrict from ht)]
          generalize partsR ms k (typR ms (nameR ms s1).2).2 [tkIs, tkIn] = r at *
          obtain ⟨e, s2⟩ := r
          have hne : s2.nest = s1.nest := ((q1.trans q2).trans gpt.1).nest
          have hnn : s1.nest = s.nest + 1 := by rw [← hs1]; rfl
          simp only at hpt gpt ⊢
          (repeat' (first | simp -implicitDefEqProofs (disch := omega) only [go_sem, ↓reduceIte, Mk.c, hn', hw', e1, e2, e3, hs1'] | (((first | with_reducible apply cnd_c | with_reducible apply grd_c | with_reducible apply pck_c) <;> intro wh <;> (try rewrite [wh]) <;> try simp only [wdw] at wh) <;> (try (revert wh; intro _)) <;> try (exfalso; omega)) | refine andi ?_ | ((with_reducible refine callM_id ?_); refine callM_i (r_next (by omega) hl) ?_) | ((with_reducible refine ecallM_id ?_); refine ecall_ma (r_next (by omega) hl) ?_) | ((with_reducible refine callM_id ?_); refine callM_i (i1 _ (by omega)) ?_) | ((with_reducible refine ecallM_id ?_); refine ecall_ma (i1 _ (by omega)) ?_) | ((with_reducible refine callM_id ?_); refine callM_i (i2 _ (by omega)) ?_) | ((with_reducible refine ecallM_id ?_); refine ecall_ma (i2 _ (by omega)) ?_) | ((with_reducible refine callM_id ?_); refine callM_i (r_name (s := s1) hm (by omega) hl1) ?_) | ((with_reducible refine ecallM_id ?_); refine ecall_ma (r_name (s := s1) hm (by omega) hl1) ?_) | ((with_reducible refine callM_id ?_); refine callM_i (r_typ hm (by omega) q1.lt) ?_) | ((with_reducible refine ecallM_id ?_); refine ecall_ma (r_typ hm (by omega) q1.lt) ?_) | ((with_reducible refine callM_id ?_); refine callM_i (hpt .full _ _ (by omega)) ?_) | ((with_reducible refine ecallM_id ?_); refine ecall_ma (hpt .full _ _ (by omega)) ?_) | fail))
          exact ⟨by simp [Ex.c, tkNo], by omega, rfl⟩
        · have ht := (isB_kind h1).2.2
          rw [h1] at i1
          have e1 : ((nxt ms s).text = ⟨#[105, 102]⟩) = False := eq_false (by rw [ht]; decide)
          have e2 : ((nxt ms s).text = ⟨#[99, 97, 115, 101]⟩) = False := eq_false (by rw [ht]; decide)
          have e3 : ((nxt ms s).text = ⟨#[115, 116, 114, 105, 99, 116]⟩) = False := eq_false (by rw [ht]; decide)
          simp only [bindR, if_neg (show ¬ (nxt ms s).text = tkCase by rw [ht]; decide), if_neg (show ¬ (nxt ms s).text = tkStrict by rw [ht]; decide)]
          generalize partsR ms k (typR ms (nameR ms s1).2).2 [tkIs, tkIn] = r at *
          obtain ⟨e, s2⟩ := r
          have hne : s2.nest = s1.nest := ((q1.trans q2).trans gpt.1).nest
          have hnn : s1.nest = s.nest + 1 := by rw [← hs1]; rfl
          simp only at hpt gpt ⊢
          (repeat' (first | simp -implicitDefEqProofs (disch := omega) only [go_sem, ↓reduceIte, Mk.c, hn', hw', e1, e2, e3, hs1'] | (((first | with_reducible apply cnd_c | with_reducible apply grd_c | with_reducible apply pck_c) <;> intro wh <;> (try rewrite [wh]) <;> try simp only [wdw] at wh) <;> (try (revert wh; intro _)) <;> try (exfalso; omega)) | refine andi ?_ | ((with_reducible refine callM_id ?_); refine callM_i (r_next (by omega) hl) ?_) | ((with_reducible refine ecallM_id ?_); refine ecall_ma (r_next (by omega) hl) ?_) | ((with_reducible refine callM_id ?_); refine callM_i (i1 _ (by omega)) ?_) | ((with_reducible refine ecallM_id ?_); refine ecall_ma (i1 _ (by omega)) ?_) | ((with_reducible refine callM_id ?_); refine callM_i (r_name (s := s1) hm (by omega) hl1) ?_) | ((with_reducible refine ecallM_id ?_); refine ecall_ma (r_name (s := s1) hm (by omega) hl1) ?_) | ((with_reducible refine callM_id ?_); refine callM_i (r_typ hm (by omega) q1.lt) ?_) | ((with_reducible refine ecallM_id ?_); refine ecall_ma (r_typ hm (by omega) q1.lt) ?_) | ((with_reducible refine callM_id ?_); refine callM_i (hpt .full _ _ (by omega)) ?_) | ((with_reducible refine ecallM_id ?_); refine ecall_ma (hpt .full _ _ (by omega)) ?_) | fail))
          exact ⟨by simp [Ex.c, tkNo], by omega, rfl⟩
  · have hBf : bindsB ms s = false := by simpa using hB
    have hb3 : isB ms s tkLet = false ∧ isB ms s tkStrict = false ∧ isB ms s tkCase = false := by
      simp only [bindsB, Bool.or_eq_false_iff] at hBf
      exact ⟨hBf.1.1, hBf.1.2, hBf.2⟩
    rw [hb3.1] at i1
    rw [hb3.2.1] at i2
    rw [hb3.2.2] at i3
    simp only [hBf, Bool.false_eq_true, false_and, if_false]
    by_cases hw : s.why = 0
    · rw [if_neg (by omega)]
      have hw' : (s.why = 0) = True := eq_true hw
      cases h4 : isB ms s tkIf
      · rw [h4] at i4
        have hc := (W k (Nat.le_refl _)).cons s ha (by omega)
        simp only [Bool.false_eq_true, if_false]
        (repeat' (first | simp -implicitDefEqProofs (disch := omega) only [go_sem, ↓reduceIte, Mk.c, hw'] | (((first | with_reducible apply cnd_c | with_reducible apply grd_c | with_reducible apply pck_c) <;> intro wh <;> (try rewrite [wh]) <;> try simp only [wdw] at wh) <;> (try (revert wh; intro _)) <;> try (exfalso; omega)) | refine andi ?_ | ((with_reducible refine callM_id ?_); refine callM_i (r_next (by omega) hl) ?_) | ((with_reducible refine ecallM_id ?_); refine ecall_ma (r_next (by omega) hl) ?_) | ((with_reducible refine callM_id ?_); refine callM_i (i1 _ (by omega)) ?_) | ((with_reducible refine ecallM_id ?_); refine ecall_ma (i1 _ (by omega)) ?_) | ((with_reducible refine callM_id ?_); refine callM_i (i2 _ (by omega)) ?_) | ((with_reducible refine ecallM_id ?_); refine ecall_ma (i2 _ (by omega)) ?_) | ((with_reducible refine callM_id ?_); refine callM_i (i3 _ (by omega)) ?_) | ((with_reducible refine ecallM_id ?_); refine ecall_ma (i3 _ (by omega)) ?_) | ((with_reducible refine callM_id ?_); refine callM_i (i4 _ (by omega)) ?_) | ((with_reducible refine ecallM_id ?_); refine ecall_ma (i4 _ (by omega)) ?_) | ((with_reducible refine callM_id ?_); refine callM_i (hc.m (by omega)) ?_) | ((with_reducible refine ecallM_id ?_); refine ecall_ma (hc.m (by omega)) ?_) | fail))
        omega
      · rw [h4] at i4
        have ht := (isB_kind h4).2.2
        have e1 : ((nxt ms s).text = ⟨#[105, 102]⟩) = True := eq_true ht
        have p1 := isB_pt hm hl h4
        have m1 := p1.mu1 hw
        have hpt := (W k (Nat.le_refl _)).parts (adv s) [tkNo, tkThen, tkElse] (by simp) (ha.step p1) (by simp only [List.length_cons, List.length_nil]; omega)
        simp only [if_true]
        generalize partsR ms k (adv s) [tkNo, tkThen, tkElse] = r at *
        obtain ⟨e, s2⟩ := r
        (repeat' (first | simp -implicitDefEqProofs (disch := omega) only [go_sem, ↓reduceIte, Mk.c, hw', e1] | (((first | with_reducible apply cnd_c | with_reducible apply grd_c | with_reducible apply pck_c) <;> intro wh <;> (try rewrite [wh]) <;> try simp only [wdw] at wh) <;> (try (revert wh; intro _)) <;> try (exfalso; omega)) | refine andi ?_ | ((with_reducible refine callM_id ?_); refine callM_i (r_next (by omega) hl) ?_) | ((with_reducible refine ecallM_id ?_); refine ecall_ma (r_next (by omega) hl) ?_) | ((with_reducible refine callM_id ?_); refine callM_i (i1 _ (by omega)) ?_) | ((with_reducible refine ecallM_id ?_); refine ecall_ma (i1 _ (by omega)) ?_) | ((with_reducible refine callM_id ?_); refine callM_i (i2 _ (by omega)) ?_) | ((with_reducible refine ecallM_id ?_); refine ecall_ma (i2 _ (by omega)) ?_) | ((with_reducible refine callM_id ?_); refine callM_i (i3 _ (by omega)) ?_) | ((with_reducible refine ecallM_id ?_); refine ecall_ma (i3 _ (by omega)) ?_) | ((with_reducible refine callM_id ?_); refine callM_i (i4 _ (by omega)) ?_) | ((with_reducible refine ecallM_id ?_); refine ecall_ma (i4 _ (by omega)) ?_) | ((with_reducible refine callM_id ?_); refine callM_i (hpt .full _ _ (by omega)) ?_) | ((with_reducible refine ecallM_id ?_); refine ecall_ma (hpt .full _ _ (by omega)) ?_) | fail))
        exact ⟨by simp [Ex.c, tkNo], by omega⟩
    · rw [if_pos hw]
      have hw' : (s.why = 0) = False := eq_false hw
      (repeat' (first | simp -implicitDefEqProofs (disch := omega) only [go_sem, ↓reduceIte, Mk.c, hw'] | (((first | with_reducible apply cnd_c | with_reducible apply grd_c | with_reducible apply pck_c) <;> intro wh <;> (try rewrite [wh]) <;> try simp only [wdw] at wh) <;> (try (revert wh; intro _)) <;> try (exfalso; omega)) | refine andi ?_ | ((with_reducible refine callM_id ?_); refine callM_i (r_next (by omega) hl) ?_) | ((with_reducible refine ecallM_id ?_); refine ecall_ma (r_next (by omega) hl) ?_) | ((with_reducible refine callM_id ?_); refine callM_i (i1 _ (by omega)) ?_) | ((with_reducible refine ecallM_id ?_); refine ecall_ma (i1 _ (by omega)) ?_) | ((with_reducible refine callM_id ?_); refine callM_i (i2 _ (by omega)) ?_) | ((with_reducible refine ecallM_id ?_); refine ecall_ma (i2 _ (by omega)) ?_) | ((with_reducible refine callM_id ?_); refine callM_i (i3 _ (by omega)) ?_) | ((with_reducible refine ecallM_id ?_); refine ecall_ma (i3 _ (by omega)) ?_) | fail))
      exact ⟨by simp [noEx, Ex.c, Ex.cs, tkNo], by omega⟩
/-- All the parser's methods. -/
theorem wkA : ∀ k, Wk ms k := by
  intro k
  induction k using Nat.strongRecOn with
  | _ k ih =>
    match k with
    | 0 => exact ⟨fun _ _ h => by omega, fun _ _ _ _ h => by omega, fun _ _ h => by omega, fun _ _ h => by omega, fun _ _ h => by omega, fun _ _ h => by omega, fun _ _ h => by omega, fun _ _ _ h => by omega⟩
    | k + 1 =>
      have W : ∀ j, j ≤ k → Wk ms j := fun j hj => ih j (by omega)
      have W0 := W k (Nat.le_refl _)
      exact ⟨wk_expr hm W, fun s l h3 h4 h5 q n i => wk_parts hm W s l h4 h5 h3 q n i, wk_cons hm W0, wk_comp hm W0, wk_sum hm W, wk_term hm W, wk_unit hm W0, wk_named hm W⟩
end
end Go.Proofs.Fathom
