/- A part of the proof: texts joined. -/
import Derived.Test.YtgjoecocahpfhaaProg
namespace Go.Proofs.Ytgjoecocahpfhaa
set_option maxRecDepth 100000
namespace So
abbrev D0 := List Nat
theorem get_set (D : D0) (i k v : Nat) : (D.set i v).getD k default = if i = k ∧ i < D.length then v else D.getD k default := by
  rw [List.getD_eq_getElem?_getD, List.getD_eq_getElem?_getD, List.getElem?_set]
  by_cases h : i = k
  · subst h
    by_cases h2 : i < D.length
    · rw [if_pos rfl, if_pos h2, if_pos ⟨rfl, h2⟩]; rfl
    · rw [if_pos rfl, if_neg h2, if_neg (fun k => h2 k.2), List.getElem?_eq_none (by omega)]
  · rw [if_neg h, if_neg (fun k => h k.1)]
def sw (D : D0) (i j : Nat) : D0 := (D.set i (D.getD j default)).set j (D.getD i default)
theorem sw_len (D : D0) (i j : Nat) : (sw D i j).length = D.length := by unfold sw; rw [List.length_set, List.length_set]
theorem sw_get {D : D0} {i j : Nat} (hi : i < D.length) (hj : j < D.length) (k : Nat) : (sw D i j).getD k default = if k = j then D.getD i default else if k = i then D.getD j default else D.getD k default := by
  unfold sw
  rw [get_set, get_set, List.length_set]
  by_cases h1 : k = j
  · subst h1; rw [if_pos ⟨rfl, hj⟩, if_pos rfl]
  · rw [if_neg (fun e => h1 e.1.symm), if_neg h1]
    by_cases h2 : k = i
    · subst h2; rw [if_pos ⟨rfl, hi⟩, if_pos rfl]
    · rw [if_neg (fun e => h2 e.1.symm), if_neg h2]
theorem sw_perm {D : D0} {i j : Nat} (hi : i < D.length) (hj : j < D.length) : (sw D i j).Perm D := by
  unfold sw
  rw [List.getD_eq_getElem?_getD, List.getD_eq_getElem?_getD, List.getElem?_eq_getElem hi, List.getElem?_eq_getElem hj]
  exact List.set_set_perm hi hj
structure Mv (lo hi : Nat) (D D' : D0) : Prop where
  perm : D'.Perm D
  out : ∀ k, k < lo ∨ hi ≤ k → D'.getD k default = D.getD k default
  inn : ∀ k, lo ≤ k → k < hi → ∃ j, lo ≤ j ∧ j < hi ∧ D'.getD k default = D.getD j default
theorem Mv.len {lo hi : Nat} {D D' : D0} (h : Mv lo hi D D') : D'.length = D.length := h.perm.length_eq
theorem Mv.refl (lo hi : Nat) (D : D0) : Mv lo hi D D := ⟨.refl _, fun _ _ => rfl, fun k h1 h2 => ⟨k, h1, h2, rfl⟩⟩
theorem Mv.trans {lo hi : Nat} {D D' D'' : D0} (h : Mv lo hi D D') (g : Mv lo hi D' D'') : Mv lo hi D D'' := ⟨g.perm.trans h.perm, fun k hk => (g.out k hk).trans (h.out k hk), fun k h1 h2 => by
  obtain ⟨j, j1, j2, e⟩ := g.inn k h1 h2
  obtain ⟨i, i1, i2, e2⟩ := h.inn j j1 j2
  exact ⟨i, i1, i2, e.trans e2⟩⟩
theorem Mv.wide {lo hi lo' hi' : Nat} {D D' : D0} (h : Mv lo hi D D') (h1 : lo' ≤ lo) (h2 : hi ≤ hi') : Mv lo' hi' D D' := ⟨h.perm, fun k hk => h.out k (by omega), fun k k1 k2 => by
  by_cases hk : lo ≤ k ∧ k < hi
  · obtain ⟨j, j1, j2, e⟩ := h.inn k hk.1 hk.2
    exact ⟨j, by omega, by omega, e⟩
  · exact ⟨k, k1, k2, h.out k (by omega)⟩⟩
theorem Mv.sw {lo hi i j : Nat} {D : D0} (h1 : lo ≤ i) (h2 : i < hi) (h3 : lo ≤ j) (h4 : j < hi) (hl : hi ≤ D.length) : Mv lo hi D (sw D i j) := by
  have hg := sw_get (D := D) (i := i) (j := j) (by omega) (by omega)
  refine ⟨sw_perm (by omega) (by omega), fun k hk => ?_, fun k k1 k2 => ?_⟩
  · rw [hg, if_neg (by omega), if_neg (by omega)]
  · rw [hg]
    by_cases e : k = j
    · exact ⟨i, h1, h2, by rw [if_pos e]⟩
    · by_cases e2 : k = i
      · exact ⟨j, h3, h4, by rw [if_neg e, if_pos e2]⟩
      · exact ⟨k, k1, k2, by rw [if_neg e, if_neg e2]⟩
def Srt (f : Nat → Nat) (lo hi : Nat) (D : D0) : Prop := ∀ i j, lo ≤ i → i ≤ j → j < hi → f (D.getD i default) ≤ f (D.getD j default)
theorem Srt.sub {f : Nat → Nat} {lo hi lo' hi' : Nat} {D : D0} (h : Srt f lo hi D) (h1 : lo ≤ lo') (h2 : hi' ≤ hi) : Srt f lo' hi' D := fun i j a b c => h i j (by omega) b (by omega)
theorem Srt.of_out {f : Nat → Nat} {lo hi a b : Nat} {D D' : D0} (h : Srt f lo hi D) (m : Mv a b D D') (hd : hi ≤ a ∨ b ≤ lo) : Srt f lo hi D' := fun i j h1 h2 h3 => by
  rw [m.out i (by omega), m.out j (by omega)]
  exact h i j h1 h2 h3
def bs (p : Nat → Bool) (i j : Nat) : Nat := if i < j then (if p ((i + j) / 2) then bs p ((i + j) / 2 + 1) j else bs p i ((i + j) / 2)) else i
termination_by j - i
theorem bs_step {p : Nat → Bool} {i j : Nat} (h : i < j) : bs p i j = if p ((i + j) / 2) then bs p ((i + j) / 2 + 1) j else bs p i ((i + j) / 2) := by
  rw [bs, if_pos h]
theorem bs_end {p : Nat → Bool} {i j : Nat} (h : ¬ i < j) : bs p i j = i := by
  rw [bs, if_neg h]
theorem bs_spec {p : Nat → Bool} {lo hi : Nat} (hm : ∀ x y, lo ≤ x → x ≤ y → y < hi → p y = true → p x = true) : ∀ (d i j : Nat), d = j - i → lo ≤ i → i ≤ j → j ≤ hi → (∀ x, lo ≤ x → x < i → p x = true) → (∀ x, j ≤ x → x < hi → p x = false) → i ≤ bs p i j ∧ bs p i j ≤ j ∧ (∀ x, lo ≤ x → x < bs p i j → p x = true) ∧ ∀ x, bs p i j ≤ x → x < hi → p x = false := by
  intro d
  induction d using Nat.strongRecOn with
  | _ d ih =>
    intro i j hd h1 h2 h3 hlow hhigh
    by_cases h : i < j
    · rw [bs_step h]
      have hb : i ≤ (i + j) / 2 ∧ (i + j) / 2 < j := by omega
      cases hp : p ((i + j) / 2) with
      | true =>
        rw [if_pos rfl]
        have := ih (j - ((i + j) / 2 + 1)) (by omega) ((i + j) / 2 + 1) j rfl (by omega) (by omega) h3 (fun x hx1 hx2 => hm x ((i + j) / 2) hx1 (by omega) (by omega) hp) hhigh
        exact ⟨by omega, this.2.1, this.2.2⟩
      | false =>
        rw [if_neg (by decide)]
        have := ih ((i + j) / 2 - i) (by omega) i ((i + j) / 2) rfl h1 (by omega) (by omega) hlow (fun x hx1 hx2 => by
          cases hq : p x with
          | false => rfl
          | true => have := hm ((i + j) / 2) x (by omega) hx1 hx2 hq; rw [hp] at this; cases this)
        exact ⟨this.1, by omega, this.2.2⟩
    · rw [bs_end h]
      obtain rfl : i = j := by omega
      exact ⟨Nat.le_refl _, Nat.le_refl _, hlow, hhigh⟩
def insJ (f : Nat → Nat) (a : Nat) : Nat → D0 → D0
  | 0, D => D
  | j + 1, D => if a < j + 1 ∧ f (D.getD (j + 1) default) < f (D.getD j default) then insJ f a j (sw D (j + 1) j) else D
theorem insJ_mv (f : Nat → Nat) (a : Nat) : ∀ (j : Nat) (D : D0), a ≤ j → j < D.length → Mv a (j + 1) D (insJ f a j D)
  | 0, D, _, _ => .refl _ _ _
  | j + 1, D, h1, h2 => by
    rw [insJ]
    split
    · rename_i h
      have m1 := Mv.sw (lo := a) (hi := j + 2) (i := j + 1) (j := j) (D := D) (by omega) (by omega) (by omega) (by omega) (by omega)
      exact m1.trans ((insJ_mv f a j (sw D (j + 1) j) (by omega) (by rw [sw_len]; omega)).wide (Nat.le_refl _) (by omega))
    · exact .refl _ _ _
theorem insJ_srt (f : Nat → Nat) (a : Nat) : ∀ (j e : Nat) (D : D0), a ≤ j → j < e → e ≤ D.length → (∀ x y, a ≤ x → x ≤ y → y < e → x ≠ j → y ≠ j → f (D.getD x default) ≤ f (D.getD y default)) → (∀ y, j < y → y < e → f (D.getD j default) ≤ f (D.getD y default)) → Srt f a e (insJ f a j D)
  | 0, e, D, h1, h2, h3, hs, hj => fun x y k1 k2 k3 => by
    rw [insJ]
    by_cases hx : x = 0
    · subst hx
      by_cases hy : y = 0
      · subst hy; exact Nat.le_refl _
      · exact hj y (by omega) k3
    · exact hs x y k1 k2 k3 hx (by omega)
  | j + 1, e, D, h1, h2, h3, hs, hj => by
    rw [insJ]
    split
    · rename_i h
      have hg := sw_get (D := D) (i := j + 1) (j := j) (by omega) (by omega)
      refine insJ_srt f a j e _ (by omega) (by omega) (by rw [sw_len]; omega) (fun x y k1 k2 k3 kx ky => ?_) (fun y k1 k2 => ?_)
      · rw [hg, hg, if_neg kx, if_neg ky]
        by_cases e1 : x = j + 1
        · rw [if_pos e1]
          by_cases e2 : y = j + 1
          · rw [if_pos e2]; exact Nat.le_refl _
          · rw [if_neg e2]; exact hs j y (by omega) (by omega) k3 (by omega) e2
        · rw [if_neg e1]
          by_cases e2 : y = j + 1
          · rw [if_pos e2]; exact hs x j k1 (by omega) (by omega) e1 (by omega)
          · rw [if_neg e2]; exact hs x y k1 k2 k3 e1 e2
      · rw [hg, hg, if_pos rfl, if_neg (by omega)]
        by_cases e2 : y = j + 1
        · rw [if_pos e2]; exact Nat.le_of_lt h.2
        · rw [if_neg e2]; exact hj y (by omega) k2
    · rename_i h
      intro x y k1 k2 k3
      by_cases hx : x = j + 1
      · subst hx
        by_cases hy : y = j + 1
        · subst hy; exact Nat.le_refl _
        · exact hj y (by omega) k3
      · by_cases hy : y = j + 1
        · subst hy
          have h4 : f (D.getD j default) ≤ f (D.getD (j + 1) default) := by
            by_cases ha : a < j + 1
            · exact Nat.le_of_not_lt fun hh => h ⟨ha, hh⟩
            · omega
          by_cases hxj : x = j
          · subst hxj; exact h4
          · exact Nat.le_trans (hs x j k1 (by omega) (by omega) hx (by omega)) h4
        · exact hs x y k1 k2 k3 hx hy
def insS (f : Nat → Nat) (a b i : Nat) (D : D0) : D0 := if i < b then insS f a b (i + 1) (insJ f a i D) else D
termination_by b - i
theorem insS_step {f : Nat → Nat} {a b i : Nat} {D : D0} (h : i < b) : insS f a b i D = insS f a b (i + 1) (insJ f a i D) := by rw [insS, if_pos h]
theorem insS_end {f : Nat → Nat} {a b i : Nat} {D : D0} (h : ¬ i < b) : insS f a b i D = D := by rw [insS, if_neg h]
theorem insS_spec (f : Nat → Nat) (a b : Nat) : ∀ (d i : Nat) (D : D0), d = b - i → a ≤ i → b ≤ D.length → Srt f a i D → Mv a b D (insS f a b i D) ∧ Srt f a b (insS f a b i D) := by
  intro d
  induction d with
  | zero =>
    intro i D hd hi hb hs
    rw [insS_end (by omega)]
    exact ⟨.refl _ _ _, hs.sub (Nat.le_refl _) (by omega)⟩
  | succ d ih =>
    intro i D hd hi hb hs
    rw [insS_step (by omega)]
    have m1 := insJ_mv f a i D hi (by omega)
    have s1 := insJ_srt f a i (i + 1) D hi (by omega) (by omega) (fun x y k1 k2 k3 kx ky => hs x y k1 k2 (by omega)) (fun y k1 k2 => by omega)
    obtain ⟨m2, s2⟩ := ih (i + 1) (insJ f a i D) (by omega) (by omega) (by rw [m1.len]; exact hb) s1
    exact ⟨(m1.wide (Nat.le_refl _) (by omega)).trans m2, s2⟩
end So
set_option maxRecDepth 100000
namespace So
def swapR (a b n i : Nat) (D : D0) : D0 := if i < n then swapR a b n (i + 1) (sw D (a + i) (b + i)) else D
termination_by n - i
theorem swapR_step {a b n i : Nat} {D : D0} (h : i < n) : swapR a b n i D = swapR a b n (i + 1) (sw D (a + i) (b + i)) := by rw [swapR, if_pos h]
theorem swapR_end {a b n i : Nat} {D : D0} (h : ¬ i < n) : swapR a b n i D = D := by rw [swapR, if_neg h]
theorem swapR_len (a b n : Nat) : ∀ (d i : Nat) (D : D0), d = n - i → (swapR a b n i D).length = D.length := by
  intro d
  induction d with
  | zero => intro i D hd; rw [swapR_end (by omega)]
  | succ d ih => intro i D hd; rw [swapR_step (by omega), ih (i + 1) _ (by omega), sw_len]
theorem swapR_get (a b n : Nat) (hab : a + n ≤ b) : ∀ (d i : Nat) (D : D0), d = n - i → b + n ≤ D.length → ∀ k, (swapR a b n i D).getD k default = if a + i ≤ k ∧ k < a + n then D.getD (k - a + b) default else if b + i ≤ k ∧ k < b + n then D.getD (k - b + a) default else D.getD k default := by
  intro d
  induction d with
  | zero =>
    intro i D hd hl k
    rw [swapR_end (by omega), if_neg (by omega), if_neg (by omega)]
  | succ d ih =>
    intro i D hd hl k
    have hg := sw_get (D := D) (i := a + i) (j := b + i) (by omega) (by omega)
    rw [swapR_step (by omega), ih (i + 1) _ (by omega) (by rw [sw_len]; exact hl), hg, hg, hg]
    repeat' split
    all_goals first | (exfalso; omega) | rfl | (congr 1; omega)
theorem swapR_mv (a b n lo hi : Nat) (h1 : lo ≤ a) (h2 : a + n ≤ hi) (h3 : lo ≤ b) (h4 : b + n ≤ hi) : ∀ (d i : Nat) (D : D0), d = n - i → hi ≤ D.length → Mv lo hi D (swapR a b n i D) := by
  intro d
  induction d with
  | zero => intro i D hd _; rw [swapR_end (by omega)]; exact .refl _ _ _
  | succ d ih =>
    intro i D hd hl
    rw [swapR_step (by omega)]
    exact (Mv.sw (by omega) (by omega) (by omega) (by omega) hl).trans (ih (i + 1) _ (by omega) (by rw [sw_len]; exact hl))
def rot (m i j : Nat) (D : D0) : D0 :=
  if i = j then swapR (m - i) m i 0 D
  else if j < i then (if j = 0 then D else rot m (i - j) j (swapR (m - i) m j 0 D))
  else (if i = 0 then D else rot m i (j - i) (swapR (m - i) (m + j - i) i 0 D))
termination_by i + j
theorem rot_eq {m i : Nat} {D : D0} : rot m i i D = swapR (m - i) m i 0 D := by rw [rot, if_pos rfl]
theorem rot_gt {m i j : Nat} {D : D0} (h : j < i) (h0 : 0 < j) : rot m i j D = rot m (i - j) j (swapR (m - i) m j 0 D) := by rw [rot, if_neg (by omega), if_pos h, if_neg (by omega)]
theorem rot_lt {m i j : Nat} {D : D0} (h : i < j) (h0 : 0 < i) : rot m i j D = rot m i (j - i) (swapR (m - i) (m + j - i) i 0 D) := by rw [rot, if_neg (by omega), if_neg (by omega), if_neg (by omega)]
theorem rot_get (m : Nat) : ∀ (s i j : Nat) (D : D0), s = i + j → 0 < i → 0 < j → i ≤ m → m + j ≤ D.length → ∀ k, (rot m i j D).getD k default = if m - i ≤ k ∧ k < m - i + j then D.getD (k + i) default else if m - i + j ≤ k ∧ k < m + j then D.getD (k - j) default else D.getD k default := by
  intro s
  induction s using Nat.strongRecOn with
  | _ s ih =>
    intro i j D hs hi hj him hl k
    rcases Nat.lt_trichotomy i j with h | h | h
    · have hg := swapR_get (m - i) (m + j - i) i (by omega) i 0 D (by omega) (by omega)
      have hlen := swapR_len (m - i) (m + j - i) i i 0 D (by omega)
      rw [rot_lt h hi, ih (i + (j - i)) (by omega) i (j - i) _ rfl hi (by omega) him (by rw [hlen]; omega), hg, hg, hg]
      repeat' split
      all_goals first | (exfalso; omega) | rfl | (congr 1; omega)
    · subst h
      have hg := swapR_get (m - i) m i (by omega) i 0 D (by omega) (by omega)
      rw [rot_eq, hg]
      repeat' split
      all_goals first | (exfalso; omega) | rfl | (congr 1; omega)
    · have hg := swapR_get (m - i) m j (by omega) j 0 D (by omega) (by omega)
      have hlen := swapR_len (m - i) m j j 0 D (by omega)
      rw [rot_gt h hj, ih (i - j + j) (by omega) (i - j) j _ rfl (by omega) hj (by omega) (by rw [hlen]; omega), hg, hg, hg]
      repeat' split
      all_goals first | (exfalso; omega) | rfl | (congr 1; omega)
theorem rot_mv (m lo hi : Nat) : ∀ (s i j : Nat) (D : D0), s = i + j → 0 < i → 0 < j → i ≤ m → lo ≤ m - i → m + j ≤ hi → hi ≤ D.length → Mv lo hi D (rot m i j D) := by
  intro s
  induction s using Nat.strongRecOn with
  | _ s ih =>
    intro i j D hs hi0 hj him hlo hhi hl
    rcases Nat.lt_trichotomy i j with h | h | h
    · rw [rot_lt h hi0]
      exact (swapR_mv _ _ _ lo hi hlo (by omega) (by omega) (by omega) i 0 D (by omega) hl).trans (ih (i + (j - i)) (by omega) i (j - i) _ rfl hi0 (by omega) him hlo (by omega) (by rw [swapR_len _ _ _ i 0 D (by omega)]; exact hl))
    · subst h
      rw [rot_eq]
      exact swapR_mv _ _ _ lo hi hlo (by omega) (by omega) (by omega) i 0 D (by omega) hl
    · rw [rot_gt h hj]
      exact (swapR_mv _ _ _ lo hi hlo (by omega) (by omega) (by omega) j 0 D (by omega) hl).trans (ih (i - j + j) (by omega) (i - j) j _ rfl (by omega) hj (by omega) (by omega) (by omega) (by rw [swapR_len _ _ _ j 0 D (by omega)]; exact hl))
def upK (i k : Nat) (D : D0) : D0 := if k + 1 < i then upK i (k + 1) (sw D k (k + 1)) else D
termination_by i - k
theorem upK_step {i k : Nat} {D : D0} (h : k + 1 < i) : upK i k D = upK i (k + 1) (sw D k (k + 1)) := by rw [upK, if_pos h]
theorem upK_end {i k : Nat} {D : D0} (h : ¬ k + 1 < i) : upK i k D = D := by rw [upK, if_neg h]
theorem upK_get : ∀ (d i k : Nat) (D : D0), d = i - k → k < i → i ≤ D.length → ∀ x, (upK i k D).getD x default = if x + 1 = i then D.getD k default else if k ≤ x ∧ x + 1 < i then D.getD (x + 1) default else D.getD x default := by
  intro d
  induction d with
  | zero => intro i k D hd h1 h2 x; omega
  | succ d ih =>
    intro i k D hd h1 h2 x
    by_cases h : k + 1 < i
    · have hg := sw_get (D := D) (i := k) (j := k + 1) (by omega) (by omega)
      rw [upK_step h, ih i (k + 1) _ (by omega) h (by rw [sw_len]; exact h2), hg, hg, hg]
      repeat' split
      all_goals first | (exfalso; omega) | rfl | (congr 1; omega)
    · rw [upK_end h]
      repeat' split
      all_goals first | (exfalso; omega) | rfl | (congr 1; omega)
theorem upK_mv : ∀ (d i k : Nat) (D : D0), d = i - k → k < i → i ≤ D.length → Mv k i D (upK i k D) := by
  intro d
  induction d with
  | zero => intro i k D hd h1 h2; omega
  | succ d ih =>
    intro i k D hd h1 h2
    by_cases h : k + 1 < i
    · rw [upK_step h]
      exact (Mv.sw (by omega) (by omega) (by omega) (by omega) h2).trans ((ih i (k + 1) _ (by omega) h (by rw [sw_len]; exact h2)).wide (by omega) (Nat.le_refl _))
    · rw [upK_end h]; exact .refl _ _ _
def dnK (i : Nat) : Nat → D0 → D0
  | 0, D => D
  | k + 1, D => if i < k + 1 then dnK i k (sw D (k + 1) k) else D
theorem dnK_get (i : Nat) : ∀ (k : Nat) (D : D0), i ≤ k → k < D.length → ∀ x, (dnK i k D).getD x default = if x = i then D.getD k default else if i < x ∧ x ≤ k then D.getD (x - 1) default else D.getD x default
  | 0, D, h1, h2, x => by
    rw [dnK]
    repeat' split
    all_goals first | (exfalso; omega) | rfl | (congr 1; omega)
  | k + 1, D, h1, h2, x => by
    rw [dnK]
    by_cases h : i < k + 1
    · have hg := sw_get (D := D) (i := k + 1) (j := k) (by omega) (by omega)
      rw [if_pos h, dnK_get i k _ (by omega) (by rw [sw_len]; omega), hg, hg, hg]
      repeat' split
      all_goals first | (exfalso; omega) | rfl | (congr 1; omega)
    · rw [if_neg h]
      repeat' split
      all_goals first | (exfalso; omega) | rfl | (congr 1; omega)
theorem dnK_mv (i : Nat) : ∀ (k : Nat) (D : D0), i ≤ k → k < D.length → Mv i (k + 1) D (dnK i k D)
  | 0, D, h1, h2 => .refl _ _ _
  | k + 1, D, h1, h2 => by
    rw [dnK]
    split
    · rename_i h
      exact (Mv.sw (by omega) (by omega) (by omega) (by omega) (by omega)).trans ((dnK_mv i k _ (by omega) (by rw [sw_len]; omega)).wide (Nat.le_refl _) (by omega))
    · exact .refl _ _ _
end So
set_option maxRecDepth 100000
namespace So
def symS (f : Nat → Nat) (a m b : Nat) (D : D0) : Nat :=
  if (a + b) / 2 < m then bs (fun c => decide (¬ f (D.getD ((a + b) / 2 + m - 1 - c) default) < f (D.getD c default))) ((a + b) / 2 + m - b) ((a + b) / 2)
  else bs (fun c => decide (¬ f (D.getD ((a + b) / 2 + m - 1 - c) default) < f (D.getD c default))) a m
def symR (m st en : Nat) (D : D0) : D0 := if st < m ∧ m < en then rot m (m - st) (en - m) D else D
def symM (f : Nat → Nat) (a m b : Nat) (D : D0) : D0 :=
  if m - a = 1 then upK (bs (fun h => decide (f (D.getD h default) < f (D.getD a default))) m b) a D
  else if b - m = 1 then dnK (bs (fun h => decide (¬ f (D.getD m default) < f (D.getD h default))) a m) m D
  else
    if h2 : (a + b) / 2 < (a + b) / 2 + m - symS f a m b D ∧ (a + b) / 2 + m - symS f a m b D < b then
      symM f ((a + b) / 2) ((a + b) / 2 + m - symS f a m b D) b (if h1 : a < symS f a m b D ∧ symS f a m b D < (a + b) / 2 then symM f a (symS f a m b D) ((a + b) / 2) (symR m (symS f a m b D) ((a + b) / 2 + m - symS f a m b D) D) else symR m (symS f a m b D) ((a + b) / 2 + m - symS f a m b D) D)
    else (if h1 : a < symS f a m b D ∧ symS f a m b D < (a + b) / 2 then symM f a (symS f a m b D) ((a + b) / 2) (symR m (symS f a m b D) ((a + b) / 2 + m - symS f a m b D) D) else symR m (symS f a m b D) ((a + b) / 2 + m - symS f a m b D) D)
termination_by b - a
decreasing_by all_goals omega
def symL (f : Nat → Nat) (a m b : Nat) (D : D0) : D0 := if a < symS f a m b D ∧ symS f a m b D < (a + b) / 2 then symM f a (symS f a m b D) ((a + b) / 2) (symR m (symS f a m b D) ((a + b) / 2 + m - symS f a m b D) D) else symR m (symS f a m b D) ((a + b) / 2 + m - symS f a m b D) D
theorem symM_one {f : Nat → Nat} {a m b : Nat} {D : D0} (h : m - a = 1) : symM f a m b D = upK (bs (fun h => decide (f (D.getD h default) < f (D.getD a default))) m b) a D := by rw [symM, if_pos h]
theorem symM_last {f : Nat → Nat} {a m b : Nat} {D : D0} (h : ¬ m - a = 1) (h2 : b - m = 1) : symM f a m b D = dnK (bs (fun h => decide (¬ f (D.getD m default) < f (D.getD h default))) a m) m D := by rw [symM, if_neg h, if_pos h2]
theorem symM_all {f : Nat → Nat} {a m b : Nat} {D : D0} (h : ¬ m - a = 1) (h2 : ¬ b - m = 1) : symM f a m b D = if (a + b) / 2 < (a + b) / 2 + m - symS f a m b D ∧ (a + b) / 2 + m - symS f a m b D < b then symM f ((a + b) / 2) ((a + b) / 2 + m - symS f a m b D) b (symL f a m b D) else symL f a m b D := by
  rw [symM, if_neg h, if_neg h2]
  unfold symL
  split <;> split <;> rfl
structure Cut (f : Nat → Nat) (a m b st en : Nat) (D : D0) : Prop where
  st1 : a ≤ st
  st2 : st ≤ m
  st3 : st ≤ (a + b) / 2
  en1 : en = (a + b) / 2 + m - st
  en2 : m ≤ en
  en3 : en ≤ b
  low : ∀ x y, a ≤ x → x < st → en ≤ y → y < b → f (D.getD x default) ≤ f (D.getD y default)
  high : ∀ x y, st ≤ x → x < m → m ≤ y → y < en → f (D.getD y default) ≤ f (D.getD x default)
theorem symS_cut {f : Nat → Nat} {a m b : Nat} {D : D0} (h1 : a < m) (h2 : m < b) (hl : Srt f a m D) (hr : Srt f m b D) : Cut f a m b (symS f a m b D) ((a + b) / 2 + m - symS f a m b D) D := by
  unfold symS
  by_cases hm : (a + b) / 2 < m
  · simp only [if_pos hm]
    have hs := bs_spec (p := fun c => decide (¬ f (D.getD ((a + b) / 2 + m - 1 - c) default) < f (D.getD c default))) (lo := (a + b) / 2 + m - b) (hi := (a + b) / 2) (fun x y k1 k2 k3 hp => by
      have hp := of_decide_eq_true hp
      refine decide_eq_true fun hlt => hp ?_
      have e1 := hl x y (by omega) k2 (by omega)
      have e2 := hr ((a + b) / 2 + m - 1 - y) ((a + b) / 2 + m - 1 - x) (by omega) (by omega) (by omega)
      omega) _ ((a + b) / 2 + m - b) ((a + b) / 2) rfl (Nat.le_refl _) (by omega) (Nat.le_refl _) (fun x k1 k2 => by omega) (fun x k1 k2 => by omega)
    generalize bs (fun c => decide (¬ f (D.getD ((a + b) / 2 + m - 1 - c) default) < f (D.getD c default))) ((a + b) / 2 + m - b) ((a + b) / 2) = st at hs ⊢
    obtain ⟨s1, s2, s3, s4⟩ := hs
    refine ⟨by omega, by omega, s2, rfl, by omega, by omega, fun x y k1 k2 k3 k4 => ?_, fun x y k1 k2 k3 k4 => ?_⟩
    · have hq := of_decide_eq_true (s3 (st - 1) (by omega) (by omega))
      have e1 := hl x (st - 1) k1 (by omega) (by omega)
      have e2 := hr ((a + b) / 2 + m - 1 - (st - 1)) y (by omega) (by omega) k4
      omega
    · have hq := of_decide_eq_false (s4 st (Nat.le_refl _) (by omega))
      have e1 := hl st x (by omega) k1 k2
      have e2 := hr y ((a + b) / 2 + m - 1 - st) k3 (by omega) (by omega)
      omega
  · simp only [if_neg hm]
    have hs := bs_spec (p := fun c => decide (¬ f (D.getD ((a + b) / 2 + m - 1 - c) default) < f (D.getD c default))) (lo := a) (hi := m) (fun x y k1 k2 k3 hp => by
      have hp := of_decide_eq_true hp
      refine decide_eq_true fun hlt => hp ?_
      have e1 := hl x y (by omega) k2 (by omega)
      have e2 := hr ((a + b) / 2 + m - 1 - y) ((a + b) / 2 + m - 1 - x) (by omega) (by omega) (by omega)
      omega) _ a m rfl (Nat.le_refl _) (by omega) (Nat.le_refl _) (fun x k1 k2 => by omega) (fun x k1 k2 => by omega)
    generalize bs (fun c => decide (¬ f (D.getD ((a + b) / 2 + m - 1 - c) default) < f (D.getD c default))) a m = st at hs ⊢
    obtain ⟨s1, s2, s3, s4⟩ := hs
    refine ⟨s1, s2, by omega, rfl, by omega, by omega, fun x y k1 k2 k3 k4 => ?_, fun x y k1 k2 k3 k4 => ?_⟩
    · have hq := of_decide_eq_true (s3 (st - 1) (by omega) (by omega))
      have e1 := hl x (st - 1) k1 (by omega) (by omega)
      have e2 := hr ((a + b) / 2 + m - 1 - (st - 1)) y (by omega) (by omega) k4
      omega
    · have hq := of_decide_eq_false (s4 st (Nat.le_refl _) (by omega))
      have e1 := hl st x (by omega) k1 k2
      have e2 := hr y ((a + b) / 2 + m - 1 - st) k3 (by omega) (by omega)
      omega
theorem symR_get {f : Nat → Nat} {a m b st en : Nat} {D : D0} (c : Cut f a m b st en D) (h2 : m < b) (hb : b ≤ D.length) (k : Nat) : (symR m st en D).getD k default = if st ≤ k ∧ k < (a + b) / 2 then D.getD (k + (m - st)) default else if (a + b) / 2 ≤ k ∧ k < en then D.getD (k - (en - m)) default else D.getD k default := by
  obtain ⟨c1, c2, c3, c4, c5, c6, _, _⟩ := c
  unfold symR
  by_cases h : st < m ∧ m < en
  · rw [if_pos h, rot_get m _ (m - st) (en - m) D rfl (by omega) (by omega) (by omega) (by omega)]
    repeat' split
    all_goals first | (exfalso; omega) | rfl | (congr 1; omega)
  · rw [if_neg h]
    repeat' split
    all_goals first | (exfalso; omega) | rfl | (congr 1; omega)
theorem symR_mv {f : Nat → Nat} {a m b st en : Nat} {D : D0} (c : Cut f a m b st en D) (hb : b ≤ D.length) : Mv a b D (symR m st en D) := by
  obtain ⟨c1, c2, c3, c4, c5, c6, _, _⟩ := c
  unfold symR
  split
  · exact rot_mv m a b _ (m - st) (en - m) D rfl (by omega) (by omega) (by omega) (by omega) (by omega) hb
  · exact .refl _ _ _
theorem symM_spec (f : Nat → Nat) : ∀ (s a m b : Nat) (D : D0), s = b - a → a < m → m < b → b ≤ D.length → Srt f a m D → Srt f m b D → Mv a b D (symM f a m b D) ∧ Srt f a b (symM f a m b D) := by
  intro s
  induction s using Nat.strongRecOn with
  | _ s ih =>
    intro a m b D hs h1 h2 hb hl hr
    by_cases k1 : m - a = 1
    · rw [symM_one k1]
      have hq := bs_spec (p := fun h => decide (f (D.getD h default) < f (D.getD a default))) (lo := m) (hi := b) (fun x y k1 k2 k3 hp => by
        have hp := of_decide_eq_true hp
        have := hr x y k1 k2 k3
        exact decide_eq_true (by omega)) _ m b rfl (Nat.le_refl _) (by omega) (Nat.le_refl _) (fun x k1 k2 => by omega) (fun x k1 k2 => by omega)
      generalize bs (fun h => decide (f (D.getD h default) < f (D.getD a default))) m b = i at hq ⊢
      obtain ⟨q1, q2, q3, q4⟩ := hq
      refine ⟨(upK_mv _ i a D rfl (by omega) (by omega)).wide (Nat.le_refl _) q2, fun x y j1 j2 j3 => ?_⟩
      rw [upK_get _ i a D rfl (by omega) (by omega), upK_get _ i a D rfl (by omega) (by omega)]
      by_cases x1 : x + 1 = i
      · rw [if_pos x1]
        by_cases y1 : y + 1 = i
        · rw [if_pos y1]; exact Nat.le_refl _
        · rw [if_neg y1, if_neg (by omega)]
          have := of_decide_eq_false (q4 y (by omega) (by omega))
          omega
      · rw [if_neg x1]
        by_cases x2 : a ≤ x ∧ x + 1 < i
        · rw [if_pos x2]
          by_cases y1 : y + 1 = i
          · rw [if_pos y1]
            have := of_decide_eq_true (q3 (x + 1) (by omega) (by omega))
            omega
          · rw [if_neg y1]
            by_cases y2 : a ≤ y ∧ y + 1 < i
            · rw [if_pos y2]; exact hr (x + 1) (y + 1) (by omega) (by omega) (by omega)
            · rw [if_neg y2]; exact hr (x + 1) y (by omega) (by omega) (by omega)
        · rw [if_neg x2, if_neg (by omega), if_neg (by omega)]
          exact hr x y (by omega) j2 j3
    · by_cases k2 : b - m = 1
      · rw [symM_last k1 k2]
        have hq := bs_spec (p := fun h => decide (¬ f (D.getD m default) < f (D.getD h default))) (lo := a) (hi := m) (fun x y k1 k2 k3 hp => by
          have hp := of_decide_eq_true hp
          have := hl x y k1 k2 k3
          exact decide_eq_true (by omega)) _ a m rfl (Nat.le_refl _) (by omega) (Nat.le_refl _) (fun x k1 k2 => by omega) (fun x k1 k2 => by omega)
        generalize bs (fun h => decide (¬ f (D.getD m default) < f (D.getD h default))) a m = i at hq ⊢
        obtain ⟨q1, q2, q3, q4⟩ := hq
        refine ⟨(dnK_mv i m D (by omega) (by omega)).wide q1 (by omega), fun x y j1 j2 j3 => ?_⟩
        rw [dnK_get i m D (by omega) (by omega), dnK_get i m D (by omega) (by omega)]
        by_cases x1 : x = i
        · rw [if_pos x1]
          by_cases y1 : y = i
          · rw [if_pos y1]; exact Nat.le_refl _
          · rw [if_neg y1, if_pos (by omega)]
            have := of_decide_eq_false (q4 (y - 1) (by omega) (by omega))
            omega
        · rw [if_neg x1]
          by_cases x2 : i < x ∧ x ≤ m
          · rw [if_pos x2, if_neg (by omega), if_pos (by omega)]
            exact hl (x - 1) (y - 1) (by omega) (by omega) (by omega)
          · rw [if_neg x2]
            have hx := of_decide_eq_true (q3 x j1 (by omega))
            by_cases y1 : y = i
            · rw [if_pos y1]; omega
            · rw [if_neg y1]
              by_cases y2 : i < y ∧ y ≤ m
              · rw [if_pos y2]; exact hl x (y - 1) j1 (by omega) (by omega)
              · rw [if_neg y2]; exact hl x y j1 j2 (by omega)
      · rw [symM_all k1 k2]
        have c := symS_cut h1 h2 hl hr
        unfold symL
        generalize hst : symS f a m b D = st at c ⊢
        generalize hen : (a + b) / 2 + m - st = en at c ⊢
        have hg := symR_get c h2 hb
        have hmv := symR_mv c hb
        obtain ⟨c1, c2, c3, c4, c5, c6, clow, chigh⟩ := c
        generalize symR m st en D = D1 at hg hmv ⊢
        have hlen1 := hmv.len
        -- the four runs
        have r1 : Srt f a st D1 := fun x y j1 j2 j3 => by
          rw [hg, hg, if_neg (by omega), if_neg (by omega), if_neg (by omega), if_neg (by omega)]
          exact hl x y j1 j2 (by omega)
        have r2 : Srt f st ((a + b) / 2) D1 := fun x y j1 j2 j3 => by
          rw [hg, hg, if_pos (by omega), if_pos (by omega)]
          exact hr _ _ (by omega) (by omega) (by omega)
        have r3 : Srt f ((a + b) / 2) en D1 := fun x y j1 j2 j3 => by
          rw [hg, hg, if_neg (by omega), if_pos (by omega), if_neg (by omega), if_pos (by omega)]
          exact hl _ _ (by omega) (by omega) (by omega)
        have r4 : Srt f en b D1 := fun x y j1 j2 j3 => by
          rw [hg, hg, if_neg (by omega), if_neg (by omega), if_neg (by omega), if_neg (by omega)]
          exact hr x y (by omega) j2 j3
        have lu : ∀ x y, a ≤ x → x < (a + b) / 2 → (a + b) / 2 ≤ y → y < b → f (D1.getD x default) ≤ f (D1.getD y default) := fun x y j1 j2 j3 j4 => by
          rw [hg x, hg y, if_neg (show ¬ (st ≤ y ∧ y < (a + b) / 2) by omega)]
          by_cases x1 : st ≤ x
          · rw [if_pos ⟨x1, j2⟩]
            by_cases y1 : y < en
            · rw [if_pos ⟨j3, y1⟩]; exact chigh _ _ (by omega) (by omega) (by omega) (by omega)
            · rw [if_neg (by omega)]; exact hr _ y (by omega) (by omega) j4
          · rw [if_neg (by omega), if_neg (by omega)]
            by_cases y1 : y < en
            · rw [if_pos ⟨j3, y1⟩]; exact hl x _ j1 (by omega) (by omega)
            · rw [if_neg (by omega)]; exact clow x y j1 (by omega) (by omega) j4
        -- the left half
        obtain ⟨D2, hD2, m2, s2⟩ : ∃ D2, D2 = (if a < st ∧ st < (a + b) / 2 then symM f a st ((a + b) / 2) D1 else D1) ∧ Mv a ((a + b) / 2) D1 D2 ∧ Srt f a ((a + b) / 2) D2 := by
          refine ⟨_, rfl, ?_⟩
          split
          · rename_i h
            exact ih ((a + b) / 2 - a) (by omega) a st ((a + b) / 2) D1 rfl h.1 h.2 (by omega) r1 r2
          · refine ⟨.refl _ _ _, fun x y j1 j2 j3 => ?_⟩
            by_cases he : st = a
            · exact r2 x y (by omega) j2 j3
            · exact r1 x y j1 j2 (by omega)
        rw [← hD2]
        have hlen2 := m2.len
        have r3' := r3.of_out m2 (.inr (Nat.le_refl _))
        have r4' := r4.of_out m2 (.inr (by omega))
        -- the right half
        obtain ⟨D3, hD3, m3, s3⟩ : ∃ D3, D3 = (if (a + b) / 2 < en ∧ en < b then symM f ((a + b) / 2) en b D2 else D2) ∧ Mv ((a + b) / 2) b D2 D3 ∧ Srt f ((a + b) / 2) b D3 := by
          refine ⟨_, rfl, ?_⟩
          split
          · rename_i h
            exact ih (b - (a + b) / 2) (by omega) ((a + b) / 2) en b D2 rfl h.1 h.2 (by omega) r3' r4'
          · refine ⟨.refl _ _ _, fun x y j1 j2 j3 => ?_⟩
            by_cases he : en = b
            · exact r3' x y j1 j2 (by omega)
            · exact r4' x y (by omega) j2 j3
        rw [← hD3]
        refine ⟨(hmv.trans (m2.wide (Nat.le_refl _) (by omega))).trans (m3.wide (by omega) (Nat.le_refl _)), fun x y j1 j2 j3 => ?_⟩
        by_cases hx : x < (a + b) / 2
        · by_cases hy : y < (a + b) / 2
          · rw [m3.out x (by omega), m3.out y (by omega)]
            exact s2 x y j1 j2 hy
          · obtain ⟨x', i1, i2, e1⟩ := m2.inn x j1 hx
            obtain ⟨y', i3, i4, e2⟩ := m3.inn y (by omega) j3
            rw [m3.out x (by omega), e1, e2, m2.out y' (by omega)]
            exact lu x' y' i1 i2 i3 i4
        · exact s3 x y (by omega) j2 j3
end So
set_option maxRecDepth 100000
namespace So
def blkI (f : Nat → Nat) (n a b : Nat) (D : D0) : D0 := if b ≤ n then blkI f n b (b + 20) (insS f a b (a + 1) D) else insS f a n (a + 1) D
termination_by n + 1 - b
theorem blkI_step {f : Nat → Nat} {n a b : Nat} {D : D0} (h : b ≤ n) : blkI f n a b D = blkI f n b (b + 20) (insS f a b (a + 1) D) := by rw [blkI, if_pos h]
theorem blkI_end {f : Nat → Nat} {n a b : Nat} {D : D0} (h : ¬ b ≤ n) : blkI f n a b D = insS f a n (a + 1) D := by rw [blkI, if_neg h]
def mrgI (f : Nat → Nat) (s n a b : Nat) (D : D0) : D0 := if b ≤ n ∧ 0 < s then mrgI f s n b (b + 2 * s) (symM f a (a + s) b D) else if a + s < n then symM f a (a + s) n D else D
termination_by n + 1 - b
theorem mrgI_step {f : Nat → Nat} {s n a b : Nat} {D : D0} (h : b ≤ n) (h0 : 0 < s) : mrgI f s n a b D = mrgI f s n b (b + 2 * s) (symM f a (a + s) b D) := by rw [mrgI, if_pos ⟨h, h0⟩]
theorem mrgI_end {f : Nat → Nat} {s n a b : Nat} {D : D0} (h : ¬ b ≤ n) : mrgI f s n a b D = if a + s < n then symM f a (a + s) n D else D := by rw [mrgI, if_neg fun k => h k.1]
def stab (f : Nat → Nat) (s n : Nat) (D : D0) : D0 := if s < n ∧ 0 < s then stab f (s * 2) n (mrgI f s n 0 (2 * s) D) else D
termination_by n - s
theorem stab_step {f : Nat → Nat} {s n : Nat} {D : D0} (h : s < n) (h0 : 0 < s) : stab f s n D = stab f (s * 2) n (mrgI f s n 0 (2 * s) D) := by rw [stab, if_pos ⟨h, h0⟩]
theorem stab_end {f : Nat → Nat} {s n : Nat} {D : D0} (h : ¬ s < n) : stab f s n D = D := by rw [stab, if_neg fun k => h k.1]
def sort (f : Nat → Nat) (D : D0) : D0 := stab f 20 D.length (blkI f D.length 0 20 D)
def Runs (f : Nat → Nat) (s n : Nat) (D : D0) : Prop := ∀ q, Srt f (q * s) (min (q * s + s) n) D
theorem srt_none {f : Nat → Nat} {a b : Nat} {D : D0} (h : b ≤ a + 1) : Srt f a b D := fun i j h1 h2 h3 => by
  obtain rfl : i = j := by omega
  exact Nat.le_refl _
theorem insS_at (f : Nat → Nat) {a b : Nat} {D : D0} (h : b ≤ D.length) : Mv a b D (insS f a b (a + 1) D) ∧ Srt f a b (insS f a b (a + 1) D) := by
  by_cases hab : a + 1 ≤ b
  · exact insS_spec f a b _ (a + 1) D rfl (by omega) h (srt_none (Nat.le_refl _))
  · rw [insS_end (by omega)]
    exact ⟨.refl _ _ _, srt_none (by omega)⟩
theorem blkI_spec (f : Nat → Nat) (n : Nat) : ∀ (d q : Nat) (D : D0), d = n + 1 - (q * 20 + 20) → n ≤ D.length → (∀ p, p < q → Srt f (p * 20) (min (p * 20 + 20) n) D) → Mv 0 n D (blkI f n (q * 20) (q * 20 + 20) D) ∧ Runs f 20 n (blkI f n (q * 20) (q * 20 + 20) D) := by
  intro d
  induction d using Nat.strongRecOn with
  | _ d ih =>
    intro q D hd hn hr
    by_cases h : q * 20 + 20 ≤ n
    · rw [blkI_step h]
      obtain ⟨m1, s1⟩ := insS_at f (a := q * 20) (b := q * 20 + 20) (D := D) (by omega)
      have := ih (n + 1 - ((q + 1) * 20 + 20)) (by omega) (q + 1) (insS f (q * 20) (q * 20 + 20) (q * 20 + 1) D) rfl (by rw [m1.len]; exact hn) (fun p hp => by
        by_cases e : p = q
        · subst e; exact s1.sub (Nat.le_refl _) (by omega)
        · exact (hr p (by omega)).of_out m1 (.inl (by omega)))
      rw [Nat.succ_mul] at this
      exact ⟨(m1.wide (Nat.zero_le _) h).trans this.1, this.2⟩
    · rw [blkI_end h]
      obtain ⟨m1, s1⟩ := insS_at f (a := q * 20) (b := n) (D := D) hn
      refine ⟨m1.wide (Nat.zero_le _) (Nat.le_refl _), fun p => ?_⟩
      rcases Nat.lt_trichotomy p q with e | e | e
      · exact (hr p e).of_out m1 (.inl (by omega))
      · subst e; exact s1.sub (Nat.le_refl _) (by omega)
      · exact srt_none (by omega)
theorem mrgI_spec (f : Nat → Nat) (s n : Nat) (h0 : 0 < s) : ∀ (d q : Nat) (D : D0), d = n + 1 - (q * (2 * s) + 2 * s) → n ≤ D.length → (∀ p, p < q → Srt f (p * (2 * s)) (min (p * (2 * s) + 2 * s) n) D) → (∀ p, 2 * q ≤ p → Srt f (p * s) (min (p * s + s) n) D) → Mv 0 n D (mrgI f s n (q * (2 * s)) (q * (2 * s) + 2 * s) D) ∧ Runs f (2 * s) n (mrgI f s n (q * (2 * s)) (q * (2 * s) + 2 * s) D) := by
  intro d
  induction d using Nat.strongRecOn with
  | _ d ih =>
    intro q D hd hn hr ho
    have e0 : 2 * q * s = q * (2 * s) := by rw [Nat.mul_comm 2 q, Nat.mul_assoc]
    have e1 : (2 * q + 1) * s = q * (2 * s) + s := by rw [Nat.succ_mul, e0]
    have r0 := ho (2 * q) (Nat.le_refl _)
    have r1 := ho (2 * q + 1) (by omega)
    rw [e0] at r0
    rw [e1] at r1
    have early : ∀ p, p < q → p * (2 * s) + 2 * s ≤ q * (2 * s) := fun p hp => by
      rw [← Nat.succ_mul]; exact Nat.mul_le_mul_right _ hp
    have late : ∀ p, q < p → q * (2 * s) + 2 * s ≤ p * (2 * s) := fun p hp => by
      rw [← Nat.succ_mul]; exact Nat.mul_le_mul_right _ hp
    have late2 : ∀ p, 2 * q + 2 ≤ p → q * (2 * s) + 2 * s ≤ p * s := fun p hp => by
      have := Nat.mul_le_mul_right s hp
      rw [Nat.add_mul, e0] at this
      exact this
    have e2 : (q + 1) * (2 * s) = q * (2 * s) + 2 * s := Nat.succ_mul q (2 * s)
    generalize hA : q * (2 * s) = A at *
    by_cases h : A + 2 * s ≤ n
    · rw [mrgI_step h h0]
      obtain ⟨m1, s1⟩ := symM_spec f _ A (A + s) (A + 2 * s) D rfl (by omega) (by omega) (by omega) (r0.sub (Nat.le_refl _) (by omega)) (r1.sub (Nat.le_refl _) (by omega))
      have := ih (n + 1 - ((q + 1) * (2 * s) + 2 * s)) (by rw [e2]; omega) (q + 1) (symM f A (A + s) (A + 2 * s) D) rfl (by rw [m1.len]; exact hn) (fun p hp => by
        by_cases e : p = q
        · subst e; rw [hA]; exact s1.sub (Nat.le_refl _) (by omega)
        · exact (hr p (by omega)).of_out m1 (.inl (by have := early p (by omega); omega))) (fun p hp => (ho p (by omega)).of_out m1 (.inr (late2 p (by omega))))
      rw [e2] at this
      exact ⟨(m1.wide (Nat.zero_le _) h).trans this.1, this.2⟩
    · rw [mrgI_end h]
      obtain ⟨m1, s1⟩ : Mv A n D (if A + s < n then symM f A (A + s) n D else D) ∧ Srt f A n (if A + s < n then symM f A (A + s) n D else D) := by
        split
        · rename_i k
          exact symM_spec f _ A (A + s) n D rfl (by omega) k hn (r0.sub (Nat.le_refl _) (by omega)) (r1.sub (Nat.le_refl _) (by omega))
        · exact ⟨.refl _ _ _, r0.sub (Nat.le_refl _) (by omega)⟩
      refine ⟨m1.wide (Nat.zero_le _) (Nat.le_refl _), fun p => ?_⟩
      rcases Nat.lt_trichotomy p q with e | e | e
      · exact (hr p e).of_out m1 (.inl (by have := early p e; omega))
      · subst e; rw [hA]; exact s1.sub (Nat.le_refl _) (by omega)
      · have := late p e
        exact srt_none (by omega)
theorem stab_spec (f : Nat → Nat) (n : Nat) : ∀ (d s : Nat) (D : D0), d = n - s → 0 < s → n ≤ D.length → Runs f s n D → Mv 0 n D (stab f s n D) ∧ Srt f 0 n (stab f s n D) := by
  intro d
  induction d using Nat.strongRecOn with
  | _ d ih =>
    intro s D hd h0 hn hr
    by_cases h : s < n
    · rw [stab_step h h0]
      have := mrgI_spec f s n h0 _ 0 D rfl hn (fun p hp => by omega) (fun p _ => hr p)
      rw [Nat.zero_mul, Nat.zero_add] at this
      obtain ⟨m1, s1⟩ := this
      rw [Nat.mul_comm s 2]
      obtain ⟨m2, s2⟩ := ih (n - 2 * s) (by omega) (2 * s) _ rfl (by omega) (by rw [m1.len]; exact hn) s1
      exact ⟨m1.trans m2, s2⟩
    · rw [stab_end h]
      have := hr 0
      rw [Nat.zero_mul, Nat.zero_add, Nat.min_eq_right (by omega)] at this
      exact ⟨.refl _ _ _, this⟩
theorem sort_spec (f : Nat → Nat) (D : D0) : (sort f D).Perm D ∧ Srt f 0 D.length (sort f D) := by
  unfold sort
  have := blkI_spec f D.length _ 0 D rfl (Nat.le_refl _) (fun p hp => by omega)
  rw [Nat.zero_mul, Nat.zero_add] at this
  obtain ⟨m1, r1⟩ := this
  obtain ⟨m2, s2⟩ := stab_spec f D.length _ 20 _ rfl (by decide) (by rw [m1.len]; exact Nat.le_refl _) r1
  exact ⟨m2.perm.trans m1.perm, s2⟩
end So
end Go.Proofs.Ytgjoecocahpfhaa
