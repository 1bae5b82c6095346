/- A part of the proof of 'Rows.QueryReadUptoSaid': for every text and every seeds (of bulk at most 1048576 together) fathomlaw19.QueryRead returns true and its arguments read afterwards as before. -/
import Derived.Test.YtaikjbfkbijlnaaGreatF21
import Derived.Test.YtaikjbfkbijlnaaGreatF30
import Derived.Test.YtaikjbfkbijlnaaGreatF17
set_option linter.unusedVariables false
set_option linter.unusedSimpArgs false
namespace Go.Proofs.Fathom
open Go Go.Proofs
attribute [local irreducible] PSpec CSpec
/-- What is known of a program that was read. -/
structure Good (p : List Fn) : Prop where
  len : p.length ≤ 40
  fns : ∀ f ∈ p, f.params.length ≤ 4 ∧ topE f.typ = 0 ∧ ∀ t ∈ f.types, topE t = 0
theorem tcount_small : ∀ (ps : List Int) (n : Int), (∀ t ∈ ps, topE t = 0) → 1 ≤ n → n * 4 ^ ps.length ≤ 4096 → (tcount n ps).2 = 0
  | [], n, _, h1, h2 => by
    unfold tcount
    simp at h2
    rw [if_neg (by omega)]
  | t :: ps, n, ht, h1, h2 => by
    have htp := topP_le t
    unfold tcount
    rw [if_neg (by simpa using ht t (by simp))]
    have hle : n * (topP t + 1) ≤ n * 4 := Int.mul_le_mul_of_nonneg_left (by omega) (by omega)
    have hge : n * 1 ≤ n * (topP t + 1) := Int.mul_le_mul_of_nonneg_left (by omega) (by omega)
    have hpos : (0 : Int) < 4 ^ ps.length := by exact_mod_cast Nat.pow_pos (by omega : 0 < 4)
    refine tcount_small ps _ (fun u hu => ht u (by simp [hu])) (by omega) ?_
    have h3 : min (n * (topP t + 1)) 4097 * 4 ^ ps.length ≤ n * 4 * 4 ^ ps.length := Int.mul_le_mul_of_nonneg_right (by omega) (by omega)
    rw [List.length_cons, Int.pow_succ, Int.mul_comm (4 ^ ps.length) 4, ← Int.mul_assoc] at h2
    omega
theorem Good.fn {p : List Fn} (h : Good p) : ∀ f ∈ p, FnOk f := fun f hf => by
  obtain ⟨h1, h2, h3⟩ := h.fns f hf
  refine ⟨by omega, h2, tcount_small _ 1 h3 (by omega) ?_⟩
  have hl : f.types.length ≤ 4 := by simpa [Fn.types] using h1
  have : (4 : Int) ^ f.types.length ≤ 4 ^ 4 := by exact_mod_cast Nat.pow_le_pow_right (by omega) hl
  have e : (4 : Int) ^ 4 = 256 := by decide
  omega
theorem Good.fits {p : List Fn} (h : Good p) (seeds : List Int) : Fits p (risF seeds p) where
  len := risF_len seeds p
  params := fun i h1 h2 => by
    have hg := risF_get seeds p i h1
    rw [getq h2] at hg
    simp only [Option.some.injEq] at hg
    rw [hg]
    exact ⟨rfl, rfl⟩
  bits := fun t ht => by
    obtain ⟨i, hi, rfl⟩ := List.getElem_of_mem ht
    have hi2 : i < p.length := by rw [risF_len] at hi; exact hi
    have hg := risF_get seeds p i hi2
    rw [getq hi] at hg
    simp only [Option.some.injEq] at hg
    have hf := h.fn _ (List.getElem_mem hi2)
    obtain ⟨hc1, hc2, hc3, hc4⟩ := hf.cnt
    have hr := rtop_ok hf.2.1
    have hlen : (risP seeds p i p[i]).length = p[i].cnt := by
      unfold risP; rw [riseN_len, ptsF_len]
    have hw := riseN_within (ps := p[i].types) (show 0 ≤ rtop p[i].typ by omega) (ptsF_within seeds (kSum seeds p i) hf) p[i].cnt
    have h4 : pts4 (risP seeds p i p[i]) := fun q hq => by have := hw q hq; omega
    rw [hg]
    refine ⟨?_, ?_, packB_u64 h4⟩
    · show (packB _).length ≤ _
      rw [packB_len, hlen]; omega
    · show p[i].types.length ≤ _
      have := hf.1
      simp [Fn.types]; omega
end Go.Proofs.Fathom
set_option linter.unusedVariables false
namespace Go.Proofs.Fathom
open Go Go.Proofs
theorem xok_tops : ∀ (ps : List Int), xok ps (tops ps)
  | [] => by simp [tops, xok]
  | t :: ps => by
    have := topP_le t
    have ih := xok_tops ps
    simp only [tops, List.map_cons, xok] at ih ⊢
    exact ⟨this.1, Int.le_refl _, ih⟩
theorem xok_set : ∀ {ps xs : List Int} (k : Nat) (q : Int), xok ps xs → 0 ≤ q → q ≤ topP (ps.getD k 0) → xok ps (xs.set k q)
  | [], [], k, q, h, _, _ => by simp [xok]
  | t :: ps, x :: xs, 0, q, h, h0, h1 => by
    simp only [List.getD_cons_zero] at h1
    exact ⟨h0, h1, h.2.2⟩
  | t :: ps, x :: xs, k + 1, q, h, h0, h1 => by
    simp only [List.getD_cons_succ] at h1
    exact ⟨h.1, h.2.1, xok_set k q h.2.2 h0 h1⟩
  | [], _ :: _, _, _, h, _, _ => h.elim
  | _ :: _, [], _, _, h, _, _ => h.elim
/-- The point at the tops with q at place k. -/
def fAt (ps l : List Int) (k : Nat) (q : Int) : Int := l.getD (tval ps ((tops ps).set k q)).toNat 0
theorem fAt_step {ps c : List Int} (ht : ∀ t ∈ ps, topE t = 0) (hN : (c.length : Int) = prodT ps) {k : Nat} (hk : k < ps.length) {q : Int} (h0 : 0 < q) (h1 : q ≤ topP (ps.getD k 0)) :
    fAt ps (riseN ps c c.length) k (q - 1) ≤ fAt ps (riseN ps c c.length) k q := by
  have hx := xok_set k q (xok_tops ps) (by omega) h1
  have hb := tval_bd hx
  have hd := tdig_val 0 ht hx
  rw [Int.zero_mul, Int.zero_add] at hd
  have hn : (((tval ps ((tops ps).set k q)).toNat : Nat) : Int) = tval ps ((tops ps).set k q) := Int.toNat_of_nonneg hb.1
  have hl : (tops ps).length = ps.length := by simp [tops]
  have hg : ((tops ps).set k q).getD k 0 = q := getD_set_eq (by omega)
  have := rise_law ps ht c hN (tval ps ((tops ps).set k q)).toNat k (by omega) hk (by rw [hn, hd]; simp only; rw [hg]; omega)
  unfold fAt
  have e : numD ps (tval ps ((tops ps).set k q)).toNat k = (tval ps ((tops ps).set k (q - 1))).toNat := by
    unfold numD
    rw [hn, hd]
    simp only
    rw [hg, List.set_set]
  rw [e] at this
  exact this
theorem fAt_mono {ps c : List Int} (ht : ∀ t ∈ ps, topE t = 0) (hN : (c.length : Int) = prodT ps) {k : Nat} (hk : k < ps.length) : ∀ (d : Nat) (q : Int), 0 ≤ q → q + d ≤ topP (ps.getD k 0) →
    fAt ps (riseN ps c c.length) k q ≤ fAt ps (riseN ps c c.length) k (q + d)
  | 0, q, _, _ => by simp
  | d + 1, q, h0, h1 => by
    have ih := fAt_mono ht hN hk d q h0 (by omega)
    have hs := fAt_step ht hN hk (q := q + (d + 1 : Nat)) (by omega) h1
    have e : q + ((d + 1 : Nat) : Int) - 1 = q + d := by omega
    rw [e] at hs
    exact Int.le_trans ih hs
theorem atV_eq {ps : List Int} {t : Int} {l : List Int} (hc : tcount 1 ps = ((l.length : Int), 0)) (ht : 0 ≤ rtop t) (hw : within l 0 (rtop t)) (hck : tchk (ofT ps t l) = 0) {k : Nat} {q : Int} (h0 : 0 ≤ q) (h1 : q ≤ topP (ps.getD k 0)) :
    atV (ofT ps t l) k q = fAt ps l k q := by
  have hr := rtop_le t
  have h4 : pts4 l := fun x hx => by have := hw x hx; omega
  have hx := xok_set k q (xok_tops ps) h0 h1
  have hb := tval_bd hx
  obtain ⟨g1, g2, g3⟩ := tcount_ok ps 1 (by omega) (by omega) (by rw [hc])
  rw [hc] at g3
  simp only at g3
  have hok := packR_ok h4 (by omega)
  have hp : tplace (ofT ps t l) ((tops ps).set k q) = (tval ps ((tops ps).set k q), 0) := by
    unfold tplace
    rw [if_neg (by simp [hck])]
    show tnumber ps _ = _
    exact tnumber_val (by rw [hc]) hx
  have hpp : (ofT ps t l).params = ps := rfl
  unfold atV tAt
  rw [hpp, hp]
  rw [if_neg (by simp)]
  unfold rget
  have hok2 : (ofT ps t l).rw.ok = true := hok
  rw [if_pos hok2, if_neg (by show ¬ (_ ∨ (l.length : Int) ≤ _); omega)]
  show cellV (packB l) _ = _
  have hn : (((tval ps ((tops ps).set k q)).toNat : Nat) : Int) = tval ps ((tops ps).set k q) := Int.toNat_of_nonneg hb.1
  rw [← hn, cellV_pack h4]
  rfl
theorem demF_spec (t : Tb) (k : Nat) : ∀ n : Nat, -1 ≤ demF t k n ∧ demF t k n < n ∧ (0 ≤ demF t k n → atV t k (demF t k n) ≤ 0) ∧ ∀ q : Int, demF t k n < q → q < n → 0 < atV t k q
  | 0 => by simp only [demF]; exact ⟨by omega, by omega, fun h => by omega, fun q h1 h2 => by omega⟩
  | n + 1 => by
    obtain ⟨h1, h2, h3, h4⟩ := demF_spec t k n
    simp only [demF]
    split
    · rename_i h5
      refine ⟨h1, by omega, h3, fun q h6 h7 => ?_⟩
      by_cases hq : q = n
      · subst hq; exact h5
      · exact h4 q h6 (by omega)
    · rename_i h5
      exact ⟨by omega, by omega, fun _ => by omega, fun q h6 h7 => by omega⟩
/-- A demand is just what the table has at the tops. -/
theorem demand_law {ps c : List Int} {t : Int} (hps : ∀ u ∈ ps, topE u = 0) (hc : tcount 1 ps = ((c.length : Int), 0)) (ht : 0 ≤ rtop t) (hw : within c 0 (rtop t)) (hck : tchk (ofT ps t (riseN ps c c.length)) = 0) {k : Nat} (hk : k < ps.length) {q : Int} (h0 : 0 ≤ q) (h1 : q ≤ topP (ps.getD k 0)) :
    (fAt ps (riseN ps c c.length) k q = 0 ↔ q ≤ demV (ofT ps t (riseN ps c c.length)) k) ∧ atV (ofT ps t (riseN ps c c.length)) k q = fAt ps (riseN ps c c.length) k q := by
  have hrl : (riseN ps c c.length).length = c.length := riseN_len ps c _
  have hrw : within (riseN ps c c.length) 0 (rtop t) := riseN_within ht hw _
  obtain ⟨g1, g2, g3⟩ := tcount_ok ps 1 (by omega) (by omega) (by rw [hc])
  rw [hc] at g3
  simp only at g3
  have hN : (c.length : Int) = prodT ps := by omega
  have hat : ∀ q : Int, 0 ≤ q → q ≤ topP (ps.getD k 0) → atV (ofT ps t (riseN ps c c.length)) k q = fAt ps (riseN ps c c.length) k q := fun q h0 h1 => atV_eq (by rw [hrl]; exact hc) ht hrw hck h0 h1
  have hnn : ∀ q, 0 ≤ fAt ps (riseN ps c c.length) k q := fun q => (within_getD hrw (Int.le_refl 0) ht _).1
  have htp := topP_le (ps.getD k 0)
  obtain ⟨d1, d2, d3, d4⟩ := demF_spec (ofT ps t (riseN ps c c.length)) k (topP (ps.getD k 0) + 1).toNat
  have hdem : demV (ofT ps t (riseN ps c c.length)) k = demF (ofT ps t (riseN ps c c.length)) k (topP (ps.getD k 0) + 1).toNat := rfl
  rw [← hdem] at d1 d2 d3 d4
  refine ⟨⟨fun hf => ?_, fun hq => ?_⟩, hat q h0 h1⟩
  · rcases Int.lt_or_le (demV (ofT ps t (riseN ps c c.length)) k) q with h | h
    · have := d4 q h (by omega)
      rw [hat q h0 h1] at this
      omega
    · exact h
  · have h2 := d3 (by omega)
    rw [hat _ (by omega) (by omega)] at h2
    have h3 := fAt_mono hps hN hk (demV (ofT ps t (riseN ps c c.length)) k - q).toNat q h0 (by omega)
    have e : q + ((demV (ofT ps t (riseN ps c c.length)) k - q).toNat : Int) = demV (ofT ps t (riseN ps c c.length)) k := by omega
    rw [e] at h3
    have := hnn q
    omega
end Go.Proofs.Fathom
set_option linter.unusedVariables false
set_option linter.unusedSimpArgs false
namespace Go.Proofs.Fathom
open Go Go.Proofs
attribute [local irreducible] PSpec CSpec
set_option maxHeartbeats 4000000 in
theorem law19_QueryRead (k1 k2 : Tok) (text seeds : List Int) (p : List Fn) (ok : Bool) (hr : PS F_fathomlaw19_read [.sl k1 1 (u8s text)] (.tup [progV p, .bool ok])) (hg : ok = true → Good p)
    (hT : ok = true → ∃ w a, PS F_types_Check [progV p] (.agg [I w, I a])) (hu : u8ok seeds) (hsl : seeds.length ≤ 100000000) :
    PS F_fathomlaw19_QueryRead [.sl k1 1 (u8s text), .sl k2 1 (u8s seeds)] (.bool true) := by
  refine pspec' mixed w_fathomlaw19_QueryRead (by simp) (by simp [V.bd]) fun n => ?_
  unfold c_fathomlaw19_QueryRead r_fathomlaw19_QueryRead
  cases ok with
  | false =>
    (repeat' (first | simp -implicitDefEqProofs (disch := omega) only [go_sem, ↓reduceIte] | (((first | with_reducible apply cnd_c | with_reducible apply grd_c | with_reducible apply pck_c) <;> intro wh <;> (try rewrite [wh]) <;> try simp only [wdw] at wh) <;> (try (revert wh; intro _)) <;> try (exfalso; omega)) | refine andi ?_ | ((with_reducible refine callM_id ?_); refine callM_i awake_spec ?_) | ((with_reducible refine callM_id ?_); refine callM_i hr ?_) | fail))
    (repeat' (first | simp -implicitDefEqProofs (disch := omega) only [go_sem, ↓reduceIte, progV] | (((first | with_reducible apply cnd_c | with_reducible apply grd_c | with_reducible apply pck_c) <;> intro wh <;> (try rewrite [wh]) <;> try simp only [wdw] at wh) <;> (try (revert wh; intro _)) <;> try (exfalso; omega)) | refine andi ?_ | fail))
  | true =>
    have hg := hg rfl
    obtain ⟨w, a, hT⟩ := hT rfl
    have hlen := hg.len
    have hRi : PS F_fathomlaw17_Rising [.agg [.sl .no 11 (p.map Fn.c)], .sl k2 1 (u8s seeds)] (.sl .no 4 (tabV (risF seeds p))) := law17_Rising k2 seeds p hu hsl (by omega) hg.fn
    have hfits := hg.fits seeds
    have hfit : ∀ k', PS F_query_fit [progV p, .sl k' 4 (tabV (risF seeds p))] (I (fitE (risF seeds p) w)) := fun k' => query_fit k' p _ w a hT hfits (by omega)
    (repeat' (first | simp -implicitDefEqProofs (disch := omega) only [go_sem, ↓reduceIte] | (((first | with_reducible apply cnd_c | with_reducible apply grd_c | with_reducible apply pck_c) <;> intro wh <;> (try rewrite [wh]) <;> try simp only [wdw] at wh) <;> (try (revert wh; intro _)) <;> try (exfalso; omega)) | refine andi ?_ | ((with_reducible refine callM_id ?_); refine callM_i awake_spec ?_) | ((with_reducible refine callM_id ?_); refine callM_i hr ?_) | fail))
    (repeat' (first | simp -implicitDefEqProofs (disch := omega) only [go_sem, ↓reduceIte, progV] | (((first | with_reducible apply cnd_c | with_reducible apply grd_c | with_reducible apply pck_c) <;> intro wh <;> (try rewrite [wh]) <;> try simp only [wdw] at wh) <;> (try (revert wh; intro _)) <;> try (exfalso; omega)) | refine andi ?_ | ((with_reducible refine callM_id ?_); refine callM_i hRi ?_) | fail))
    refine loop_rule (fun s : Nat × Nat × Obs => ⟨ofL [(5, .ptr n 0), (7, .sl .no 4 (tabV (risF seeds p))), (8, I s.1)], s.2.2, s.2.1, 165, n⟩) (fun s => p.length - s.1)
      (fun s => s.1 ≤ p.length ∧ n + 1 ≤ s.2.1 ∧ s.2.2 n = some (.cells [.sl .no 11 (p.map Fn.c)])) (0, n + 1, upd (fun _ => none) n (some (.cells [.sl .no 11 (p.map Fn.c)]))) rfl ⟨Nat.zero_le _, Nat.le_refl _, by simp only; rw [upd_same]⟩ fun s hs => ?_
    obtain ⟨i, y, ob⟩ := s
    obtain ⟨hi, hy, hob⟩ := hs
    simp only at hi hy hob ⊢
    (simp -implicitDefEqProofs (disch := omega) only [go_sem, ↓reduceIte, hob])
    ((first | with_reducible apply cnd_c | with_reducible apply grd_c | with_reducible apply pck_c) <;> intro h <;> (try rewrite [h]) <;> try simp only [wdw] at h)
    · (repeat' (first | simp -implicitDefEqProofs (disch := omega) only [go_sem, ↓reduceIte] | (((first | with_reducible apply cnd_c | with_reducible apply grd_c | with_reducible apply pck_c) <;> intro wh <;> (try rewrite [wh]) <;> try simp only [wdw] at wh) <;> (try (revert wh; intro _)) <;> try (exfalso; omega)) | refine andi ?_ | fail))
    · have hlt : i < p.length := by omega
      have hlt2 : i < (risF seeds p).length := by rw [risF_len]; exact hlt
      obtain ⟨hf1, hf2, hf3⟩ := hg.fns _ (List.getElem_mem hlt)
      have hPl : PS F_query_Places [.agg [.sl .no 11 (p.map Fn.c)], .sl .no 4 (tabV (risF seeds p)), I i] _ := query_Places .no p (risF seeds p) i (fitE (risF seeds p) w) (by unfold fitE; split <;> simp) hfit hfits hlt hlt2 (by omega) (by omega)
      by_cases he : fitE (risF seeds p) w = 0
      · rw [if_pos he] at hPl
        rw [he] at hfit
        have hf := hg.fn _ (List.getElem_mem hlt)
        obtain ⟨hc1, hc2, hc3, hc4⟩ := hf.cnt
        have hTi : (risF seeds p)[i] = ofT p[i].types p[i].typ (risP seeds p i p[i]) := by
          have := risF_get seeds p i hlt
          rw [getq hlt2] at this
          simpa using this
        have hck : tchk (ofT p[i].types p[i].typ (risP seeds p i p[i])) = 0 := by
          rw [← hTi]
          unfold fitE at he
          by_cases hx : tchk (risF seeds p)[i] = 0
          · exact hx
          · rw [if_pos (.inr ⟨_, List.getElem_mem hlt2, hx⟩)] at he
            omega
        rw [hTi] at hPl
        have htl : p[i].types.length = p[i].params.length := by simp [Fn.types]
        have hLl : (bools ((List.range p[i].types.length).map fun k => decide (atV (ofT p[i].types p[i].typ (risP seeds p i p[i])) k 0 = 0))).length = p[i].params.length := by simp [bools, htl]
        have hPl2 : PS F_query_Places [.agg [.sl .no 11 (p.map Fn.c)], .sl .no 4 (tabV (risF seeds p)), I i] (.tup [.sl .no 1 (bools ((List.range p[i].types.length).map fun k => decide (atV (ofT p[i].types p[i].typ (risP seeds p i p[i])) k 0 = 0))), I 0]) := hPl
        have hLg : ∀ k, k < p[i].params.length → (bools ((List.range p[i].types.length).map fun k => decide (atV (ofT p[i].types p[i].typ (risP seeds p i p[i])) k 0 = 0)))[k]? = some [V.bool (decide (atV (ofT p[i].types p[i].typ (risP seeds p i p[i])) k 0 = 0))] := fun k hk => by
          simp only [bools, List.getElem?_map, List.getElem?_range (show k < p[i].types.length by omega), Option.map_some]
        generalize hB : bools ((List.range p[i].types.length).map fun k => decide (atV (ofT p[i].types p[i].typ (risP seeds p i p[i])) k 0 = 0)) = B at *
        (repeat' (first | simp -implicitDefEqProofs (disch := omega) only [go_sem, ↓reduceIte, hob, getq hlt, hLl, Fn.c] | (((first | with_reducible apply cnd_c | with_reducible apply grd_c | with_reducible apply pck_c) <;> intro wh <;> (try rewrite [wh]) <;> try simp only [wdw] at wh) <;> (try (revert wh; intro _)) <;> try (exfalso; omega)) | refine andi ?_ | ((with_reducible refine callM_id ?_); refine callM_i hPl2 ?_) | fail))
        refine loop_rule (fun s : Nat × Nat × Obs => ⟨ofL [(5, .ptr n 0), (7, .sl .no 4 (tabV (risF seeds p))), (8, I i), (9, .sl .no 1 B), (11, I s.1)], s.2.2, s.2.1, 165, n⟩) (fun s => p[i].params.length - s.1)
          (fun s => s.1 ≤ p[i].params.length ∧ n + 1 ≤ s.2.1 ∧ s.2.2 n = some (.cells [.sl .no 11 (p.map Fn.c)])) (0, y, ob) rfl ⟨Nat.zero_le _, hy, hob⟩ fun s hs => ?_
        obtain ⟨k, y2, ob2⟩ := s
        obtain ⟨hk, hy2, hob2⟩ := hs
        simp only at hk hy2 hob2 ⊢
        (simp -implicitDefEqProofs (disch := omega) only [go_sem, ↓reduceIte, hLl])
        ((first | with_reducible apply cnd_c | with_reducible apply grd_c | with_reducible apply pck_c) <;> intro h5 <;> (try rewrite [h5]) <;> try simp only [wdw] at h5)
        · (repeat' (first | simp -implicitDefEqProofs (disch := omega) only [go_sem, ↓reduceIte] | (((first | with_reducible apply cnd_c | with_reducible apply grd_c | with_reducible apply pck_c) <;> intro wh <;> (try rewrite [wh]) <;> try simp only [wdw] at wh) <;> (try (revert wh; intro _)) <;> try (exfalso; omega)) | refine andi ?_ | fail))
          exact ⟨(i + 1, y2, ob2), ⟨by simp only; omega, hy2, hob2⟩, by simp only; omega, rfl⟩
        · have hkl : k < p[i].params.length := by omega
          have hDm : PS F_query_Demand [.agg [.sl .no 11 (p.map Fn.c)], .sl .no 4 (tabV (risF seeds p)), I i, I k] (.tup [I (demV (risF seeds p)[i] k), I 0]) := query_Demand .no p _ i k hfit hfits hlt hlt2 hkl (by omega) (by omega)
          have hSt : PS F_query_Strict [.agg [.sl .no 11 (p.map Fn.c)], .sl .no 4 (tabV (risF seeds p)), I i, I k] (.tup [.bool (decide (atV (risF seeds p)[i] k 0 = 0)), I 0]) := query_Strict .no p _ i k hfit hfits hlt hlt2 hkl (by omega) (by omega)
          rw [hTi] at hDm hSt
          have hlaw : ∀ q : Int, 0 ≤ q → q ≤ topP (p[i].types.getD k 0) → (fAt p[i].types (risP seeds p i p[i]) k q = 0 ↔ q ≤ demV (ofT p[i].types p[i].typ (risP seeds p i p[i])) k) ∧ atV (ofT p[i].types p[i].typ (risP seeds p i p[i])) k q = fAt p[i].types (risP seeds p i p[i]) k q := by
            have hpl := ptsF_len seeds (kSum seeds p i) p[i]
            have := @demand_law p[i].types (ptsF seeds (kSum seeds p i) p[i]) p[i].typ hc4 (by rw [hpl]; exact hc2) (by have := rtop_ok hf2; omega) (ptsF_within seeds _ hf) (by rw [hpl]; exact hck) k (by omega)
            rw [hpl] at this
            exact fun q h0 h1 => this h0 h1
          have htp := topP_le (p[i].types.getD k 0)
          have hlaw0 := hlaw 0 (Int.le_refl 0) htp.1
          have hs0 : decide (atV (ofT p[i].types p[i].typ (risP seeds p i p[i])) k 0 = 0) = decide (0 ≤ demV (ofT p[i].types p[i].typ (risP seeds p i p[i])) k) := by
            rw [hlaw0.2]
            exact decide_eq_decide.2 hlaw0.1
          have hLk := hLg k hkl
          rw [hs0] at hSt hLk
          (repeat' (first | simp -implicitDefEqProofs (disch := omega) only [go_sem, ↓reduceIte, hob2, hLk] | (((first | with_reducible apply cnd_c | with_reducible apply grd_c | with_reducible apply pck_c) <;> intro wh <;> (try rewrite [wh]) <;> try simp only [wdw] at wh) <;> (try (revert wh; intro _)) <;> try (exfalso; omega)) | refine andi ?_ | ((with_reducible refine callM_id ?_); refine callM_i hDm ?_) | ((with_reducible refine callM_id ?_); refine callM_i hSt ?_) | fail))
          have htopl : (tops p[i].types).length = p[i].params.length := by simp [tops, htl]
          have hrt : ∀ j (h : j < p[i].params.length), rtop p[i].params[j].typ = topP p[i].params[j].typ := fun j h => rtop_eq (hf3 _ (by simp only [Fn.types, List.mem_map]; exact ⟨_, List.getElem_mem h, rfl⟩))
          refine loop_rule (fun s : Nat × Obs => ⟨ofL [(5, .ptr n 0), (7, .sl .no 4 (tabV (risF seeds p))), (8, I i), (9, .sl .no 1 B), (11, I k), (12, I (demV (ofT p[i].types p[i].typ (risP seeds p i p[i])) k)), (16, .row y2 s.1 1 0 s.1), (17, I s.1)], s.2, y2 + 1, 165, n⟩) (fun s => p[i].params.length - s.1)
            (fun s => s.1 ≤ p[i].params.length ∧ s.2 n = some (.cells [.sl .no 11 (p.map Fn.c)]) ∧ s.2 y2 = some (.row 1 (ints ((tops p[i].types).take s.1)))) (0, upd ob2 y2 (some (.row 1 []))) rfl ⟨Nat.zero_le _, by simp only; rw [upd_ne _ _ (by omega)]; exact hob2, by simp only; rw [upd_same]; rfl⟩ fun s hs => ?_
          obtain ⟨j, ob3⟩ := s
          obtain ⟨hj, hq1, hq2⟩ := hs
          simp only at hj hq1 hq2 ⊢
          (simp -implicitDefEqProofs (disch := omega) only [go_sem, ↓reduceIte, hLl])
          ((first | with_reducible apply cnd_c | with_reducible apply grd_c | with_reducible apply pck_c) <;> intro h6 <;> (try rewrite [h6]) <;> try simp only [wdw] at h6)
          · have hjN : j = p[i].params.length := by omega
            subst hjN
            rw [List.take_of_length_le (by omega)] at hq2
            (repeat' (first | simp -implicitDefEqProofs (disch := omega) only [go_sem, ↓reduceIte] | (((first | with_reducible apply cnd_c | with_reducible apply grd_c | with_reducible apply pck_c) <;> intro wh <;> (try rewrite [wh]) <;> try simp only [wdw] at wh) <;> (try (revert wh; intro _)) <;> try (exfalso; omega)) | refine andi ?_ | fail))
            have hkt : k < (tops p[i].types).length := by omega
            have hgt : p[i].types.getD k 0 = p[i].params[k].typ := by
              rw [List.getD_eq_getElem?_getD, getq (show k < p[i].types.length by omega)]
              simp [Fn.types]
            have hrk := hrt k hkl
            rw [hgt] at htp
            rw [hgt] at hlaw
            refine loop_rule (fun s : Nat × Int × Obs => ⟨ofL [(5, .ptr n 0), (7, .sl .no 4 (tabV (risF seeds p))), (8, I i), (9, .sl .no 1 B), (11, I k), (12, I (demV (ofT p[i].types p[i].typ (risP seeds p i p[i])) k)), (16, .row y2 p[i].params.length 1 0 p[i].params.length), (18, I s.1)], s.2.2, y2 + 1, 165, n⟩) (fun s => (topP p[i].params[k].typ + 1).toNat - s.1)
              (fun s => (s.1 : Int) ≤ topP p[i].params[k].typ + 1 ∧ s.2.2 n = some (.cells [.sl .no 11 (p.map Fn.c)]) ∧ s.2.2 y2 = some (.row 1 (ints ((tops p[i].types).set k s.2.1)))) (0, (tops p[i].types)[k], ob3) rfl ⟨by simp only; omega, hq1, by simp only; rw [List.set_getElem_self]; exact hq2⟩ fun s hs => ?_
            obtain ⟨q, c, ob4⟩ := s
            obtain ⟨hq, ho1, ho2⟩ := hs
            simp only at hq ho1 ho2 ⊢
            have hsl2 : ∀ c, ((tops p[i].types).set k c).length = p[i].params.length := fun c => by rw [List.length_set, htopl]
            have hsg : ∀ c, ((tops p[i].types).set k c)[k]? = some c := fun c => List.getElem?_set_self hkt
            (repeat' (first | simp -implicitDefEqProofs (disch := omega) only [go_sem, ↓reduceIte, ho1, ho2, getq hlt, getq hkl, Fn.c, Pm.c, hrk, hsl2, hsg, ints_set, List.set_set] | (((first | with_reducible apply cnd_c | with_reducible apply grd_c | with_reducible apply pck_c) <;> intro wh <;> (try rewrite [wh]) <;> try simp only [wdw] at wh) <;> (try (revert wh; intro _)) <;> try (exfalso; omega)) | refine andi ?_ | ((with_reducible refine callM_id ?_); refine callM_i (ref15_Is _ _) ?_) | fail))
            · exact ⟨(k + 1, y2 + 1, ob4), ⟨by simp only; omega, by simp only; omega, ho1⟩, by simp only; omega, rfl⟩
            · rename_i hq0
              have hqr : (q : Int) ≤ topP p[i].params[k].typ := by omega
              have hgT : (tabV (risF seeds p))[i]? = some (Tb.c (ofT p[i].types p[i].typ (risP seeds p i p[i]))) := by
                simp only [tabV, List.getElem?_map, risF_get seeds p i hlt, Option.map_some]
              have hrl : (risP seeds p i p[i]).length = p[i].cnt := by unfold risP; rw [riseN_len, ptsF_len]
              have hr0 := rtop_ok hf2
              have hrw := riseN_within (ps := p[i].types) (show 0 ≤ rtop p[i].typ by omega) (ptsF_within seeds (kSum seeds p i) hf) p[i].cnt
              have hxk := xok_set k (q : Int) (xok_tops p[i].types) (by omega) (by rw [hgt]; exact hqr)
              have hAt := ref16_At .no p[i].types p[i].typ (risP seeds p i p[i]) ((tops p[i].types).set k q) (by omega) (by rw [hrl]; exact hc2) (by omega) hrw hxk
              have hla := (hlaw q (by omega) hqr).1
              (repeat' (first | simp -implicitDefEqProofs (disch := omega) only [go_sem, ↓reduceIte, hgT, Tb.c] | (((first | with_reducible apply cnd_c | with_reducible apply grd_c | with_reducible apply pck_c) <;> intro wh <;> (try rewrite [wh]) <;> try simp only [wdw] at wh) <;> (try (revert wh; intro _)) <;> try (exfalso; omega)) | refine andi ?_ | fail))
              refine lndM_i (args := [.agg (ofT p[i].types p[i].typ (risP seeds p i p[i])).c, .sl .no 1 (ints ((tops p[i].types).set k q))]) ?_ hAt rfl ?_
              · simp only [lends, lend1, upd_same]
                rw [if_pos ⟨trivial, by rw [ints_len, hsl2]⟩]
                simp only [List.drop_zero, Nat.zero_add]
                rw [List.take_of_length_le (by rw [ints_len, hsl2]; exact Nat.le_refl _)]
                rfl
              · (repeat' (first | simp -implicitDefEqProofs (disch := omega) only [go_sem, ↓reduceIte] | (((first | with_reducible apply cnd_c | with_reducible apply grd_c | with_reducible apply pck_c) <;> intro wh <;> (try rewrite [wh]) <;> try simp only [wdw] at wh) <;> (try (revert wh; intro _)) <;> try (exfalso; omega)) | refine andi ?_ | fail))
                · refine ⟨(q + 1, (q : Int), upd ob4 y2 (some (.row 1 (ints ((tops p[i].types).set k q))))), ⟨by simp only; omega, ?_, ?_⟩, by simp only; omega, rfl⟩
                  · simp only
                    rw [upd_ne _ _ (by omega)]
                    exact ho1
                  · simp only
                    rw [upd_same]
                · rename_i hbad
                  rw [show decide ((risP seeds p i p[i]).getD (tval p[i].types ((tops p[i].types).set k q)).toNat 0 = 0) = decide ((q : Int) ≤ demV (ofT p[i].types p[i].typ (risP seeds p i p[i])) k) from decide_eq_decide.2 hla] at hbad
                  simp at hbad
          · have hjl : j < p[i].params.length := by omega
            have htl2 : ((tops p[i].types).take j).length = j := by rw [List.length_take, htopl]; omega
            (repeat' (first | simp -implicitDefEqProofs (disch := omega) only [go_sem, ↓reduceIte, hq1, hq2, getq hlt, getq hjl, Fn.c, Pm.c, htl2, hrt j hjl] | (((first | with_reducible apply cnd_c | with_reducible apply grd_c | with_reducible apply pck_c) <;> intro wh <;> (try rewrite [wh]) <;> try simp only [wdw] at wh) <;> (try (revert wh; intro _)) <;> try (exfalso; omega)) | refine andi ?_ | ((with_reducible refine callM_id ?_); refine callM_i (ref15_Top _) ?_) | fail))
            have e : ints ((tops p[i].types).take j) ++ [[I (topP p[i].params[j].typ)]] = ints ((tops p[i].types).take (j + 1)) := by
              have h2 : j < (tops p[i].types).length := by omega
              rw [ints_snoc, ← take_snoc h2]
              simp [tops, Fn.types]
            rw [e]
            refine ⟨(j + 1, upd ob3 y2 (some (.row 1 (ints ((tops p[i].types).take (j + 1)))))), ⟨by simp only; omega, ?_, ?_⟩, by simp only; omega, rfl⟩
            · simp only
              rw [upd_ne _ _ (by omega)]
              exact hq1
            · simp only
              rw [upd_same]
      · have he3 : fitE (risF seeds p) w = 3 := by unfold fitE at he ⊢; split <;> simp_all
        rw [if_neg he, he3] at hPl
        (repeat' (first | simp -implicitDefEqProofs (disch := omega) only [go_sem, ↓reduceIte, hob] | (((first | with_reducible apply cnd_c | with_reducible apply grd_c | with_reducible apply pck_c) <;> intro wh <;> (try rewrite [wh]) <;> try simp only [wdw] at wh) <;> (try (revert wh; intro _)) <;> try (exfalso; omega)) | refine andi ?_ | ((with_reducible refine callM_id ?_); refine callM_i hPl ?_) | fail))
        rfl
end Go.Proofs.Fathom
set_option linter.unusedVariables false
set_option linter.unusedSimpArgs false
namespace Go.Proofs.Fathom
open Go Go.Proofs
attribute [local irreducible] PSpec CSpec
def blankB (c : Int) : Bool := decide (c = 9 ∨ c = 10 ∨ c = 13 ∨ c = 32)
def letterB (c : Int) : Bool := decide (65 ≤ c ∧ c ≤ 90 ∨ 97 ≤ c ∧ c ≤ 122)
def digitB (c : Int) : Bool := decide (48 ≤ c ∧ c ≤ 57)
def runB (c : Int) : Bool := letterB c || digitB c || decide (c = 95)
theorem ref03_Blank (c : Int) : PS F_fathomref03_Blank [.int .u8 c] (.bool (blankB c)) := by
  (refine pspec' mixed w_fathomref03_Blank (by simp) (by first | rfl | simp [V.bd, bds, bdss]) fun _ => ?_; unfold c_fathomref03_Blank r_fathomref03_Blank)
  (repeat' (first | simp -implicitDefEqProofs (disch := omega) only [go_sem, ↓reduceIte] | (((first | with_reducible apply cnd_c | with_reducible apply grd_c | with_reducible apply pck_c) <;> intro wh <;> (try rewrite [wh]) <;> try simp only [wdw] at wh) <;> (try (revert wh; intro _)) <;> try (exfalso; omega)) | refine andi ?_ | fail))
  all_goals simp_all [blankB]
theorem ref03_letter (c : Int) : PS F_fathomref03_letter [.int .u8 c] (.bool (letterB c)) := by
  (refine pspec' mixed w_fathomref03_letter (by simp) (by first | rfl | simp [V.bd, bds, bdss]) fun _ => ?_; unfold c_fathomref03_letter r_fathomref03_letter)
  (repeat' (first | simp -implicitDefEqProofs (disch := omega) only [go_sem, ↓reduceIte] | (((first | with_reducible apply cnd_c | with_reducible apply grd_c | with_reducible apply pck_c) <;> intro wh <;> (try rewrite [wh]) <;> try simp only [wdw] at wh) <;> (try (revert wh; intro _)) <;> try (exfalso; omega)) | refine andi ?_ | fail))
  all_goals (simp only [V.bool.injEq, letterB]; first | (symm; apply decide_eq_true; omega) | (symm; apply decide_eq_false; omega) | (apply decide_eq_decide.2; omega))
theorem ref03_digit (c : Int) : PS F_fathomref03_digit [.int .u8 c] (.bool (digitB c)) := by
  (refine pspec' mixed w_fathomref03_digit (by simp) (by first | rfl | simp [V.bd, bds, bdss]) fun _ => ?_; unfold c_fathomref03_digit r_fathomref03_digit)
  (repeat' (first | simp -implicitDefEqProofs (disch := omega) only [go_sem, ↓reduceIte] | (((first | with_reducible apply cnd_c | with_reducible apply grd_c | with_reducible apply pck_c) <;> intro wh <;> (try rewrite [wh]) <;> try simp only [wdw] at wh) <;> (try (revert wh; intro _)) <;> try (exfalso; omega)) | refine andi ?_ | fail))
  all_goals (simp only [V.bool.injEq, digitB]; first | (symm; apply decide_eq_true; omega) | (symm; apply decide_eq_false; omega) | (apply decide_eq_decide.2; omega))
def runN : List Int → Nat
  | [] => 0
  | c :: r => if runB c then runN r + 1 else 0
theorem runN_le : ∀ l, runN l ≤ l.length
  | [] => Nat.le_refl _
  | c :: r => by
    have := runN_le r
    simp only [runN]
    split <;> simp <;> omega
theorem runN_drop : ∀ (l : List Int) (j : Nat), j ≤ runN l → (j = runN l ↔ ¬ (∃ c, l[j]? = some c ∧ runB c = true))
  | [], j, h => by simp only [runN] at h ⊢; simp; omega
  | c :: r, 0, h => by
    simp only [runN]
    split
    · rename_i hc; simp [hc]
    · rename_i hc; simp [hc]
  | c :: r, j + 1, h => by
    simp only [runN] at h ⊢
    split at h
    · rename_i hc
      rw [if_pos hc]
      have := runN_drop r j (by omega)
      simp only [List.getElem?_cons_succ]
      rw [← this]
      omega
    · omega
theorem ref03_run (k : Tok) (T : List Int) (at_ : Nat) (hT : T.length ≤ 1000000000) (ha : at_ ≤ T.length) : PS F_fathomref03_run [.sl k 1 (u8s T), I at_] (I (runN (T.drop at_))) := by
  (refine pspec' mixed w_fathomref03_run (by simp) (by first | rfl | simp [V.bd, bds, bdss]) fun _ => ?_; unfold c_fathomref03_run r_fathomref03_run)
  (repeat' (first | simp -implicitDefEqProofs (disch := omega) only [go_sem, ↓reduceIte] | (((first | with_reducible apply cnd_c | with_reducible apply grd_c | with_reducible apply pck_c) <;> intro wh <;> (try rewrite [wh]) <;> try simp only [wdw] at wh) <;> (try (revert wh; intro _)) <;> try (exfalso; omega)) | refine andi ?_ | fail))
  have hrl := runN_le (T.drop at_)
  rw [List.length_drop] at hrl
  refine loop_rule (fun j : Nat => ⟨ofL [(0, .sl k 1 (u8s T)), (1, I at_), (5, I j)], fun _ => none, _, 42, _⟩) (fun j => runN (T.drop at_) - j)
    (fun j => j ≤ runN (T.drop at_)) 0 rfl (Nat.zero_le _) fun j hj => ?_
  have hd := runN_drop (T.drop at_) j hj
  rw [List.getElem?_drop] at hd
  by_cases hlt : at_ + j < T.length
  · have e1 : ((at_ : Int) + (j : Int)) = ((at_ + j : Nat) : Int) := by omega
    rw [getq hlt] at hd
    have hb : (∃ c, some T[at_ + j] = some c ∧ runB c = true) ↔ runB T[at_ + j] = true := by simp
    rw [hb] at hd
    (repeat' (first | simp -implicitDefEqProofs (disch := omega) only [go_sem, ↓reduceIte, e1, getq hlt] | (((first | with_reducible apply cnd_c | with_reducible apply grd_c | with_reducible apply pck_c) <;> intro wh <;> (try rewrite [wh]) <;> try simp only [wdw] at wh) <;> (try (revert wh; intro _)) <;> try (exfalso; omega)) | refine andi ?_ | ((with_reducible refine callM_id ?_); refine callM_i (ref03_letter _) ?_) | ((with_reducible refine callM_id ?_); refine callM_i (ref03_digit _) ?_) | fail))
    · rename_i g1 g2 g3
      rw [← hd.2 (by simp [runB, g1, g2, g3])]
    all_goals
      rename_i g
      have hr : runB T[at_ + j] = true := by simp [runB, g]
      have hne : j ≠ runN (T.drop at_) := fun e => hd.1 e hr
      exact ⟨j + 1, by omega, by omega, rfl⟩
  · have hjr : j = runN (T.drop at_) := hd.2 (by rw [List.getElem?_eq_none (by omega)]; simp)
    have e1 : ((at_ : Int) + (j : Int)) = ((at_ + j : Nat) : Int) := by omega
    (repeat' (first | simp -implicitDefEqProofs (disch := omega) only [go_sem, ↓reduceIte, e1] | (((first | with_reducible apply cnd_c | with_reducible apply grd_c | with_reducible apply pck_c) <;> intro wh <;> (try rewrite [wh]) <;> try simp only [wdw] at wh) <;> (try (revert wh; intro _)) <;> try (exfalso; omega)) | refine andi ?_ | fail))
    rw [← hjr]
def signN (c : Int) (d : Option Int) : Int := if (c = 45 ∧ d = some 62) ∨ (c = 61 ∧ d = some 61) then 2 else if c = 40 ∨ c = 41 ∨ c = 44 ∨ c = 58 ∨ c = 59 ∨ c = 61 ∨ c = 43 ∨ c = 45 ∨ c = 42 ∨ c = 47 ∨ c = 60 ∨ c = 124 then 1 else 0
theorem ref03_sign (k : Tok) (T : List Int) (at_ : Nat) (hT : T.length ≤ 1000000000) (ha : at_ < T.length) : PS F_fathomref03_sign [.sl k 1 (u8s T), I at_] (I (signN T[at_] T[at_ + 1]?)) := by
  have e1 : ((at_ : Int) + 1) = ((at_ + 1 : Nat) : Int) := by omega
  (refine pspec' mixed w_fathomref03_sign (by simp) (by first | rfl | simp [V.bd, bds, bdss]) fun _ => ?_; unfold c_fathomref03_sign r_fathomref03_sign)
  by_cases h2 : at_ + 1 < T.length
  · have hg := getq h2
    generalize hd : T[at_ + 1] = d at hg
    (repeat' (first | simp -implicitDefEqProofs (disch := omega) only [go_sem, ↓reduceIte, e1, getq ha, hg] | (((first | with_reducible apply cnd_c | with_reducible apply grd_c | with_reducible apply pck_c) <;> intro wh <;> (try rewrite [wh]) <;> try simp only [wdw] at wh) <;> (try (revert wh; intro _)) <;> try (exfalso; omega)) | refine andi ?_ | fail))
    all_goals simp_all [signN]
  · have hg : T[at_ + 1]? = none := List.getElem?_eq_none (by omega)
    (repeat' (first | simp -implicitDefEqProofs (disch := omega) only [go_sem, ↓reduceIte, e1, getq ha] | (((first | with_reducible apply cnd_c | with_reducible apply grd_c | with_reducible apply pck_c) <;> intro wh <;> (try rewrite [wh]) <;> try simp only [wdw] at wh) <;> (try (revert wh; intro _)) <;> try (exfalso; omega)) | refine andi ?_ | fail))
    all_goals simp_all [signN]
end Go.Proofs.Fathom
