/-
  Plain lemmas on what is told of some reals: in any order, in any parts; what is among them may be. No program in sight.
-/
import Derived.Test.YtfpmbkdijechaaaStatAwake
namespace Go.Proofs.Ytfpmbkdijechaaa
open Go.RowKit Flt

theorem St.ext' {s o : St} (h1 : s.c = o.c) (h2 : s.k = o.k) (h3 : s.wh = o.wh) (h4 : s.an = o.an) (h5 : s.mn = o.mn) (h6 : s.mx = o.mx) : s = o := by
  cases s; cases o; simp_all

theorem less_assoc_t (a b c : Nat) : lessOf (lessOf a b true) c true = lessOf a (lessOf b c true) true := by
  unfold lessOf
  simp only [beq_true, decide_eq_true_eq]
  by_cases h1 : rank b < rank a
  · rw [if_pos h1]
    by_cases h2 : rank c < rank b
    · rw [if_pos h2, if_pos (by omega)]
    · rw [if_neg h2, if_pos h1]
  · rw [if_neg h1]
    by_cases h2 : rank c < rank b
    · rw [if_pos h2]
    · rw [if_neg h2, if_neg h1, if_neg (by omega)]
theorem less_assoc_f (a b c : Nat) : lessOf (lessOf a b false) c false = lessOf a (lessOf b c false) false := by
  unfold lessOf
  simp only [beq_false, Bool.not_eq_true', decide_eq_false_iff_not]
  by_cases h1 : rank b < rank a
  · rw [if_neg (show ¬ ¬ rank b < rank a from fun h => h h1)]
    by_cases h2 : rank c < rank b
    · rw [if_neg (show ¬ ¬ rank c < rank b from fun h => h h2), if_neg (show ¬ ¬ rank c < rank a from fun h => h (by omega)), if_neg (show ¬ ¬ rank b < rank a from fun h => h h1)]
    · rw [if_pos h2]
  · rw [if_pos h1]
    by_cases h2 : rank c < rank b
    · rw [if_neg (show ¬ ¬ rank c < rank b from fun h => h h2), if_pos h1]
    · rw [if_pos h2, if_pos (show ¬ rank c < rank a by omega)]

theorem spanMn_assoc (p q r : Bool) (a b c : Nat) : spanMn (p || q) r (spanMn p q a b) c = spanMn p (q || r) a (spanMn q r b c) := by
  unfold spanMn
  cases p <;> cases q <;> cases r <;> simp [less_assoc_t]
theorem spanMx_assoc (p q r : Bool) (a b c : Nat) : spanMx (p || q) r (spanMx p q a b) c = spanMx p (q || r) a (spanMx q r b c) := by
  unfold spanMx
  cases p <;> cases q <;> cases r <;> simp [less_assoc_f]

theorem join_assoc (s o t : St) : (s.join o).join t = s.join (o.join t) := by
  refine St.ext' ?_ ?_ ?_ ?_ ?_ ?_
  · show s.c + o.c + t.c = s.c + (o.c + t.c); omega
  · funext i; show s.k i + o.k i + t.k i = s.k i + (o.k i + t.k i); omega
  · show s.wh + o.wh + t.wh = s.wh + (o.wh + t.wh); omega
  · show (s.an || o.an || t.an) = (s.an || (o.an || t.an)); exact Bool.or_assoc ..
  · exact spanMn_assoc ..
  · exact spanMx_assoc ..

theorem join_zero (s : St) : s.join zeroSt = s := by
  refine St.ext' ?_ ?_ ?_ ?_ ?_ ?_
  · show s.c + 0 = s.c; omega
  · funext i; show s.k i + 0 = s.k i; omega
  · show s.wh + 0 = s.wh; omega
  · show (s.an || false) = s.an; exact Bool.or_false _
  · rfl
  · rfl

/-- Where there is none, the least and the greatest are 0. -/
def St.Norm (s : St) : Prop := s.an = false → s.mn = 0 ∧ s.mx = 0

theorem zero_join {s : St} (h : s.Norm) : zeroSt.join s = s := by
  refine St.ext' ?_ ?_ ?_ ?_ ?_ ?_
  · show 0 + s.c = s.c; omega
  · funext i; show 0 + s.k i = s.k i; omega
  · show 0 + s.wh = s.wh; omega
  · show (false || s.an) = s.an; exact Bool.false_or _
  · show spanMn false s.an 0 s.mn = s.mn
    unfold spanMn
    cases ha : s.an with
    | true => rfl
    | false => rw [(h ha).1]; rfl
  · show spanMx false s.an 0 s.mx = s.mx
    unfold spanMx
    cases ha : s.an with
    | true => rfl
    | false => rw [(h ha).2]; rfl

theorem Norm.join {s o : St} (hs : s.Norm) (ho : o.Norm) : (s.join o).Norm := by
  intro h
  have h' : (s.an || o.an) = false := h
  rw [Bool.or_eq_false_iff] at h'
  refine ⟨?_, ?_⟩
  · show spanMn s.an o.an s.mn o.mn = 0
    unfold spanMn
    rw [h'.2]
    exact (hs h'.1).1
  · show spanMx s.an o.an s.mx o.mx = 0
    unfold spanMx
    rw [h'.2]
    exact (hs h'.1).2
theorem oneSt_norm (b : Nat) : (oneSt b).Norm := by
  intro h
  have h' : (kind b != 8) = false := h
  have h8 : kind b = 8 := by simpa using h'
  exact ⟨by show (if kind b = 8 then 0 else b) = 0; rw [if_pos h8], by show (if kind b = 8 then 0 else b) = 0; rw [if_pos h8]⟩
theorem zeroSt_norm : zeroSt.Norm := fun _ => ⟨rfl, rfl⟩

theorem rank_inj' {a b : Nat} (ha : Fits a) (hb : Fits b) (h : rank a = rank b) : a = b := by
  unfold Fits at ha hb
  unfold rank at h
  split at h <;> split at h <;> omega

theorem less_comm_t {a b : Nat} (ha : Fits a) (hb : Fits b) : lessOf a b true = lessOf b a true := by
  unfold lessOf
  simp only [beq_true, decide_eq_true_eq]
  by_cases h1 : rank b < rank a
  · rw [if_pos h1, if_neg (by omega)]
  · rw [if_neg h1]
    by_cases h2 : rank a < rank b
    · rw [if_pos h2]
    · rw [if_neg h2]; exact rank_inj' ha hb (by omega)
theorem less_comm_f {a b : Nat} (ha : Fits a) (hb : Fits b) : lessOf a b false = lessOf b a false := by
  unfold lessOf
  simp only [beq_false, Bool.not_eq_true', decide_eq_false_iff_not]
  by_cases h1 : rank b < rank a
  · rw [if_neg (show ¬ ¬ rank b < rank a from fun h => h h1), if_pos (show ¬ rank a < rank b by omega)]
  · rw [if_pos h1]
    by_cases h2 : rank a < rank b
    · rw [if_neg (show ¬ ¬ rank a < rank b from fun h => h h2)]
    · rw [if_pos h2]; exact rank_inj' hb ha (by omega)

theorem join_comm {N M : Int} {s o : St} (hs : s.Ok N) (ho : o.Ok M) (ns : s.Norm) (no : o.Norm) : s.join o = o.join s := by
  refine St.ext' ?_ ?_ ?_ ?_ ?_ ?_
  · show s.c + o.c = o.c + s.c; omega
  · funext i; show s.k i + o.k i = o.k i + s.k i; omega
  · show s.wh + o.wh = o.wh + s.wh; omega
  · show (s.an || o.an) = (o.an || s.an); exact Bool.or_comm ..
  · show spanMn s.an o.an s.mn o.mn = spanMn o.an s.an o.mn s.mn
    unfold spanMn
    cases h1 : s.an <;> cases h2 : o.an
    · simp [(ns h1).1, (no h2).1]
    · simp
    · simp
    · simp [less_comm_t hs.mn ho.mn]
  · show spanMx s.an o.an s.mx o.mx = spanMx o.an s.an o.mx s.mx
    unfold spanMx
    cases h1 : s.an <;> cases h2 : o.an
    · simp [(ns h1).2, (no h2).2]
    · simp
    · simp
    · simp [less_comm_f hs.mx ho.mx]

theorem foldSt (M : List Nat) : ∀ s : St, M.foldl (fun s b => s.join (oneSt b)) s = s.join (ofSt M) := by
  have h : ∀ (M : List Nat) (s t : St), M.foldl (fun s b => s.join (oneSt b)) (s.join t) = s.join (M.foldl (fun s b => s.join (oneSt b)) t) := by
    intro M
    induction M with
    | nil => intro s t; rfl
    | cons b M ih =>
      intro s t
      rw [List.foldl_cons, List.foldl_cons, join_assoc, ih]
  intro s
  have := h M s zeroSt
  rw [join_zero] at this
  exact this

theorem ofSt_append (M K : List Nat) : ofSt (M ++ K) = (ofSt M).join (ofSt K) := by
  unfold ofSt
  rw [List.foldl_append]
  exact foldSt K _

theorem ofSt_snoc (M : List Nat) (b : Nat) : ofSt (M ++ [b]) = (ofSt M).join (oneSt b) := by
  unfold ofSt
  rw [List.foldl_append]
  rfl

theorem ofSt_norm (M : List Nat) : (ofSt M).Norm := by
  have h : ∀ (M : List Nat) (s : St), s.Norm → (M.foldl (fun s b => s.join (oneSt b)) s).Norm := by
    intro M
    induction M with
    | nil => intro s hs; exact hs
    | cons b M ih => intro s hs; exact ih _ (Norm.join hs (oneSt_norm b))
  exact h M zeroSt zeroSt_norm

theorem ofSt_comm {M K : List Nat} (hM : ∀ x ∈ M, Fits x) (hK : ∀ x ∈ K, Fits x) : ofSt (M ++ K) = ofSt (K ++ M) := by
  rw [ofSt_append, ofSt_append]
  exact join_comm (ofSt_ok hM) (ofSt_ok hK) (ofSt_norm M) (ofSt_norm K)

theorem ofSt_reverse : ∀ {M : List Nat}, (∀ x ∈ M, Fits x) → ofSt M.reverse = ofSt M
  | [], _ => rfl
  | b :: M, h => by
    have hM : ∀ x ∈ M, Fits x := fun x hx => h x (by simp [hx])
    have hb : ∀ x ∈ [b], Fits x := fun x hx => h x (by simp at hx; simp [hx])
    rw [List.reverse_cons, ofSt_append, ofSt_reverse hM, ← ofSt_append, ofSt_comm hM hb]
    rfl

/-- Such a real is told of. -/
def Cov (s : St) (x : Nat) : Prop := if kind x = 8 then 0 < s.k 8 else s.an = true ∧ rank s.mn ≤ rank x ∧ rank x ≤ rank s.mx

theorem lessOf_t (a b : Nat) : rank (lessOf a b true) ≤ rank a ∧ rank (lessOf a b true) ≤ rank b := by
  unfold lessOf
  simp only [beq_true, decide_eq_true_eq]
  split <;> omega
theorem lessOf_f (a b : Nat) : rank a ≤ rank (lessOf a b false) ∧ rank b ≤ rank (lessOf a b false) := by
  unfold lessOf
  simp only [beq_false, Bool.not_eq_true', decide_eq_false_iff_not]
  split <;> omega

theorem Cov.left {N : Int} {s o : St} {x : Nat} (ho : o.Ok N) (h : Cov s x) : Cov (s.join o) x := by
  unfold Cov at *
  split at h
  · rename_i h8
    rw [if_pos h8]
    have := (ho.k 8).1
    show 0 < s.k 8 + o.k 8
    omega
  · rename_i h8
    rw [if_neg h8]
    obtain ⟨h1, h2, h3⟩ := h
    refine ⟨?_, ?_, ?_⟩
    · show (s.an || o.an) = true
      rw [h1]; rfl
    · show rank (spanMn s.an o.an s.mn o.mn) ≤ rank x
      unfold spanMn
      rw [h1]
      cases o.an
      · exact h2
      · have := (lessOf_t s.mn o.mn).1
        show rank (lessOf s.mn o.mn true) ≤ _
        omega
    · show rank x ≤ rank (spanMx s.an o.an s.mx o.mx)
      unfold spanMx
      rw [h1]
      cases o.an
      · exact h3
      · have := (lessOf_f s.mx o.mx).1
        show _ ≤ rank (lessOf s.mx o.mx false)
        omega

theorem Cov.one {N : Int} {s : St} {x : Nat} (hs : s.Ok N) : Cov (s.join (oneSt x)) x := by
  unfold Cov
  split
  · rename_i h8
    have := (hs.k 8).1
    show 0 < s.k 8 + (if 8 = (kind x).toNat then (1 : Int) else 0)
    rw [h8]
    rw [if_pos (by decide)]
    omega
  · rename_i h8
    have hb : (kind x != 8) = true := by simpa using h8
    refine ⟨?_, ?_, ?_⟩
    · show (s.an || (kind x != 8)) = true
      rw [hb]; exact Bool.or_true _
    · show rank (spanMn s.an (kind x != 8) s.mn (if kind x = 8 then 0 else x)) ≤ rank x
      unfold spanMn
      rw [hb, if_neg h8]
      cases s.an
      · exact Int.le_refl _
      · exact (lessOf_t s.mn x).2
    · show rank x ≤ rank (spanMx s.an (kind x != 8) s.mx (if kind x = 8 then 0 else x))
      unfold spanMx
      rw [hb, if_neg h8]
      cases s.an
      · exact Int.le_refl _
      · exact (lessOf_f s.mx x).2

theorem cov_of {M : List Nat} (hf : ∀ x ∈ M, Fits x) : ∀ j : Nat, j ≤ M.length → ∀ x ∈ M.take j, Cov (ofSt (M.take j)) x := by
  intro j
  induction j with
  | zero => intro _ x hx; simp at hx
  | succ j ih =>
    intro hj x hx
    have hlt : j < M.length := by omega
    rw [ofSt_take hlt]
    rw [List.take_succ_eq_append_getElem hlt] at hx
    have hfj : ∀ x ∈ M.take j, Fits x := fun x hx => hf x (List.mem_of_mem_take hx)
    rcases List.mem_append.1 hx with hx | hx
    · exact (ih (by omega) x hx).left (oneSt_ok (hf _ (List.getElem_mem hlt)))
    · simp at hx
      subst hx
      exact Cov.one (ofSt_ok hfj)

theorem may_of {M : List Nat} (hf : ∀ x ∈ M, Fits x) {x : Nat} (hx : x ∈ M) : mayOf (ofSt M) x = true := by
  have h := cov_of hf M.length (Nat.le_refl _)
  rw [List.take_of_length_le (Nat.le_refl _)] at h
  have hc := h x hx
  unfold Cov at hc
  unfold mayOf
  split at hc
  · rename_i h8
    rw [if_pos h8]
    exact decide_eq_true hc
  · rename_i h8
    rw [if_neg h8]
    obtain ⟨h1, h2, h3⟩ := hc
    rw [h1, decide_eq_false (by omega), decide_eq_false (by omega)]
    rfl

/-- The first so many counts of kinds together. -/
def sumK (k : Nat → Int) : Nat → Int
  | 0 => 0
  | j + 1 => sumK k j + k j

theorem sumK_add (k k' : Nat → Int) : ∀ j, sumK (fun i => k i + k' i) j = sumK k j + sumK k' j
  | 0 => rfl
  | j + 1 => by
    show sumK (fun i => k i + k' i) j + (k j + k' j) = sumK k j + k j + (sumK k' j + k' j)
    rw [sumK_add k k' j]; omega

theorem sumK_one (b : Nat) : sumK (oneSt b).k 9 = 1 := by
  have hr := kind_range b
  have hc : kind b = 0 ∨ kind b = 1 ∨ kind b = 2 ∨ kind b = 3 ∨ kind b = 4 ∨ kind b = 5 ∨ kind b = 6 ∨ kind b = 7 ∨ kind b = 8 := by omega
  have hk : (oneSt b).k = fun i => if i = (kind b).toNat then 1 else 0 := rfl
  rw [hk]
  rcases hc with h | h | h | h | h | h | h | h | h <;> rw [h] <;> rfl

theorem sumK_bound {k : Nat → Int} {N : Int} (h : ∀ i, 0 ≤ k i ∧ k i ≤ N) : ∀ j : Nat, 0 ≤ sumK k j ∧ sumK k j ≤ N * j
  | 0 => ⟨Int.le_refl _, by simp [sumK]⟩
  | j + 1 => by
    have := sumK_bound h j
    have := h j
    have e : N * ((j + 1 : Nat) : Int) = N * j + N := by rw [Int.natCast_add, Int.mul_add]; simp
    rw [e]
    show 0 ≤ sumK k j + k j ∧ sumK k j + k j ≤ _
    omega

theorem told_of (M : List Nat) : sumK (ofSt M).k 9 = M.length ∧ (ofSt M).k 8 ≤ (ofSt M).c ∧ (ofSt M).an = decide ((ofSt M).k 8 < (ofSt M).c) := by
  have h : ∀ (M : List Nat) (s : St), s.k 8 ≤ s.c → s.an = decide (s.k 8 < s.c) →
      sumK (M.foldl (fun s b => s.join (oneSt b)) s).k 9 = sumK s.k 9 + M.length ∧ (M.foldl (fun s b => s.join (oneSt b)) s).k 8 ≤ (M.foldl (fun s b => s.join (oneSt b)) s).c ∧
      (M.foldl (fun s b => s.join (oneSt b)) s).an = decide ((M.foldl (fun s b => s.join (oneSt b)) s).k 8 < (M.foldl (fun s b => s.join (oneSt b)) s).c) := by
    intro M
    induction M with
    | nil => intro s h1 h2; exact ⟨by simp, h1, h2⟩
    | cons b M ih =>
      intro s h1 h2
      have hk8 : (oneSt b).k 8 = if kind b = 8 then 1 else 0 := by
        show (if 8 = (kind b).toNat then (1 : Int) else 0) = _
        have hr := kind_range b
        by_cases h : kind b = 8
        · rw [if_pos h, h]; rfl
        · rw [if_neg h, if_neg (by omega)]
      have g1 : (s.join (oneSt b)).k 8 ≤ (s.join (oneSt b)).c := by
        show s.k 8 + (oneSt b).k 8 ≤ s.c + 1
        rw [hk8]; split <;> omega
      have g2 : (s.join (oneSt b)).an = decide ((s.join (oneSt b)).k 8 < (s.join (oneSt b)).c) := by
        show (s.an || (kind b != 8)) = decide (s.k 8 + (oneSt b).k 8 < s.c + 1)
        rw [hk8, h2]
        by_cases h : kind b = 8
        · rw [if_pos h, h]
          rw [Bool.eq_iff_iff]
          simp
        · rw [if_neg h]
          have : (kind b != 8) = true := by simpa using h
          rw [this, Bool.or_true]
          symm
          exact decide_eq_true (by omega)
      obtain ⟨i1, i2, i3⟩ := ih (s.join (oneSt b)) g1 g2
      rw [List.foldl_cons]
      refine ⟨?_, i2, i3⟩
      rw [i1]
      have : sumK (s.join (oneSt b)).k 9 = sumK s.k 9 + 1 := by
        rw [← sumK_one b]
        exact sumK_add s.k (oneSt b).k 9
      rw [this]
      simp
      omega
  have := h M zeroSt (Int.le_refl _) rfl
  have hz : sumK zeroSt.k 9 = 0 := rfl
  rw [hz, Int.zero_add] at this
  exact this
end Go.Proofs.Ytfpmbkdijechaaa
