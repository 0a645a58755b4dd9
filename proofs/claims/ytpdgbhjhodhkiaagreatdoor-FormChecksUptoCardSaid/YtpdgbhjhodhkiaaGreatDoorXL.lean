/- The plain law: the checks agree with those of the reference. -/
import Derived.Test.YtpdgbhjhodhkiaaGreatDoorXG
import Derived.Test.YtpdgbhjhodhkiaaGreatDoorXE
set_option linter.unnecessarySimpa false
set_option linter.unusedVariables false
set_option linter.unusedSimpArgs false
namespace Go.Proofs.YtpdgbhjhodhkiaaGreatDoor.AI
open Go Go.Proofs
noncomputable instance : DecidableEq Form := fun _ _ => Classical.propDecidable _
mutual
def nodesF : Form → Nat
 | .mk _ _ _ ks => 1 + nodesL ks
def nodesL : List Form → Nat
 | [] => 0
 | x :: l => nodesF x + nodesL l
end
mutual
def depthF : Form → Nat
 | .mk _ _ _ ks => depthL ks + 1
def depthL : List Form → Nat
 | [] => 0
 | x :: l => max (depthF x) (depthL l)
end
theorem nodesF_pos (f : Form) : 1 ≤ nodesF f := by cases f; simp only [nodesF]; omega
theorem nodesF_eq (f : Form) : nodesF f = 1 + nodesL f.kids := by cases f; rfl
theorem depthF_eq (f : Form) : depthF f = depthL f.kids + 1 := by cases f; rfl
theorem length_le_nodesL (l : List Form) : l.length ≤ nodesL l := by
 induction l with
 | nil => simp
 | cons x l ih => have := nodesF_pos x; simp only [List.length_cons, nodesL]; omega
mutual
theorem depth_le : ∀ f : Form, depthF f ≤ nodesF f
 | .mk _ _ _ ks => by have := depth_leL ks; simp only [depthF, nodesF]; omega
theorem depth_leL : ∀ l : List Form, depthL l ≤ nodesL l
 | [] => by simp [depthL]
 | x :: l => by have := depth_le x; have := depth_leL l; simp only [depthL, nodesL]; omega
end
theorem nodesF_mem {x : Form} {l : List Form} (h : x ∈ l) : nodesF x ≤ nodesL l := by
 induction l with
 | nil => cases h
 | cons y l ih =>
  simp only [nodesL]
  rcases List.mem_cons.1 h with rfl | h
  ·omega
  ·have := ih h; omega
theorem nodesF_kid {x f : Form} (h : x ∈ f.kids) : nodesF x < nodesF f := by
 have := nodesF_mem h
 rw [nodesF_eq f]
 omega
theorem form_induct {p : Form → Prop} (h : ∀ f, (∀ x ∈ f.kids, p x) → p f) : ∀ f, p f := by
 have key : ∀ n f, nodesF f ≤ n → p f := by
  intro n
  induction n with
  | zero => intro f hf; have := nodesF_pos f; omega
  | succ n ih =>
   intro f hf
   refine h f fun x hx => ih x ?_
   have := nodesF_kid hx
   omega
 exact fun f => key _ f (Nat.le_refl _)
theorem form_eq : ∀ a b : Form, a = b ↔ a.kind = b.kind ∧ a.text = b.text ∧ a.home = b.home ∧ a.kids = b.kids
 | .mk _ _ _ _, .mk _ _ _ _ => by simp [Form.kind, Form.text, Form.home, Form.kids]
def big : Nat := 4611686018427387904
theorem i1 (i : Nat) : ((i : Int) + 1) = ((i + 1 : Nat) : Int) := by omega
theorem size_loop (ks : List Form) (p2 : Int) (p3 p4 : Bs) (hF : ∀ x ∈ ks, lim.Size x = some ((nodesF x : Int), (depthF x : Int))) :
  ∀ (r : List Form) (i a d : Nat), ks.drop i = r → i + r.length = ks.length → a + nodesL r < big → ks.length < big →
   lim.Size_L0 ks ks.length p2 p3 p4 ((a : Int), (d : Int), (i : Int)) = some (((a + nodesL r : Nat) : Int), ((max d (depthL r) : Nat) : Int), (ks.length : Int))
 | [], i, a, d, h, hl, hb, hi => by
  simp only [List.length_nil, Nat.add_zero] at hl
  rw [Size_L0_eq]
  unfold Size_L0_R
  dsimp only
  rw [cnd_f (by simp; omega)]
  simp [sumK, nodesL, depthL, hl]
 | x :: r, i, a, d, h, hl, hb, hi => by
  obtain ⟨h1, h2, h3⟩ := idx_drop h
  have hx := mem_drop h
  simp only [List.length_cons] at hl
  simp only [nodesL] at hb
  have hp := nodesF_pos x
  unfold big at hb hi
  rw [Size_L0_eq]
  unfold Size_L0_R
  dsimp only
  rw [cnd_t (by simp; omega), opK_s h1, Form.eta, opK_s (hF x hx)]
  rw [cnd_t (ok64_of (by omega) (by omega)), cnd_t (ok64_of (by omega) (by omega)), sumK_inr]
  have e1 : ((a : Int) + (nodesF x : Int)) = ((a + nodesF x : Nat) : Int) := by omega
  have e2 : (max (d : Int) (depthF x : Int)) = ((max d (depthF x) : Nat) : Int) := by omega
  rw [e1, e2, i1, size_loop ks p2 p3 p4 hF r (i + 1) (a + nodesF x) (max d (depthF x)) h2 (by omega) (by unfold big; omega) (by unfold big; omega)]
  simp only [nodesL, depthL]
  congr 3
  ·omega
  ·omega
theorem size_lim : ∀ f : Form, nodesF f < big → lim.Size f = some ((nodesF f : Int), (depthF f : Int)) := by
 refine form_induct fun f ih hb => ?_
 rw [nodesF_eq] at hb
 have hl := length_le_nodesL f.kids
 have hd := depth_leL f.kids
 have h : lim.Size_L0 f.kids f.kids.length f.kind f.text f.home (1, 0, 0) = some (((1 + nodesL f.kids : Nat) : Int), ((max 0 (depthL f.kids) : Nat) : Int), (f.kids.length : Int)) := size_loop f.kids f.kind f.text f.home (fun x hx => ih x hx (by have := nodesF_mem hx; omega)) f.kids 0 1 0 (by simp) (by simp) (by omega) (by omega)
 unfold big at hb
 rw [Size_eq]
 unfold Size_c
 simp only [Size_L0_K, chk_eq, opK_some']
 rw [opK_s h]
 dsimp only
 rw [cnd_t (ok64_of (by omega) (by omega))]
 rw [nodesF_eq, depthF_eq]
 simp
theorem rsize_loop (p0 : Int) (p1 p2 : Bs) (ks : List Form) (hF : ∀ x ∈ ks, lim.rSize x = some ((nodesF x : Int), (depthF x : Int))) :
  ∀ (r : List Form) (i a d : Nat), ks.drop i = r → i + r.length = ks.length → a + nodesL r < big → ks.length < big →
   ∃ j, lim.rSize_L0 p0 p1 p2 ks ((a : Int), (d : Int), (i : Int)) = some (((a + nodesL r : Nat) : Int), ((max d (depthL r) : Nat) : Int), j)
 | [], i, a, d, h, hl, hb, hi => by
  simp only [List.length_nil, Nat.add_zero] at hl
  rw [rSize_L0_eq]
  unfold rSize_L0_R
  dsimp only
  rw [cnd_f (by simp; omega)]
  simp [sumK, nodesL, depthL, hl]
 | x :: r, i, a, d, h, hl, hb, hi => by
  obtain ⟨h1, h2, h3⟩ := idx_drop h
  have hx := mem_drop h
  simp only [List.length_cons] at hl
  simp only [nodesL] at hb
  have hp := nodesF_pos x
  unfold big at hb hi
  rw [rSize_L0_eq]
  unfold rSize_L0_R
  dsimp only
  rw [cnd_t (by simp; omega), opK_s h1, Form.eta, opK_s (hF x hx)]
  rw [cnd_t (ok64_of (by omega) (by omega)), cnd_t (ok64_of (by omega) (by omega)), sumK_inr]
  have e1 : ((a : Int) + (nodesF x : Int)) = ((a + nodesF x : Nat) : Int) := by omega
  have e2 : (max (d : Int) (depthF x : Int)) = ((max d (depthF x) : Nat) : Int) := by omega
  obtain ⟨j, hj⟩ := rsize_loop p0 p1 p2 ks hF r (i + 1) (a + nodesF x) (max d (depthF x)) h2 (by omega) (by unfold big; omega) (by unfold big; omega)
  refine ⟨j, ?_⟩
  rw [e1, e2, i1, hj]
  simp only [nodesL, depthL]
  congr 3
  ·omega
  ·omega
theorem rsize_lim : ∀ f : Form, nodesF f < big → lim.rSize f = some ((nodesF f : Int), (depthF f : Int)) := by
 refine form_induct fun f ih hb => ?_
 rw [nodesF_eq] at hb
 have hl := length_le_nodesL f.kids
 have hd := depth_leL f.kids
 obtain ⟨j, h⟩ : ∃ j, lim.rSize_L0 f.kind f.text f.home f.kids (1, 0, 0) = some (((1 + nodesL f.kids : Nat) : Int), ((max 0 (depthL f.kids) : Nat) : Int), j) := rsize_loop f.kind f.text f.home f.kids (fun x hx => ih x hx (by have := nodesF_mem hx; omega)) f.kids 0 1 0 (by simp) (by simp) (by omega) (by omega)
 unfold big at hb
 rw [rSize_eq]
 unfold rSize_c
 simp only [rSize_L0_K, chk_eq, opK_some']
 rw [opK_s h]
 dsimp only
 rw [cnd_t (ok64_of (by omega) (by omega))]
 rw [nodesF_eq, depthF_eq]
 simp
mutual
def leftF : Form → Int → Int
 | .mk _ _ _ ks, n => leftL ks (n - 1)
def leftL : List Form → Int → Int
 | [], n => n
 | x :: l, n => if 0 ≤ n then leftL l (leftF x n) else n
end
theorem leftF_eq (f : Form) (n : Int) : leftF f n = leftL f.kids (n - 1) := by cases f; rfl
mutual
theorem leftF_spec : ∀ (f : Form) (n : Int), 0 ≤ n → -1 ≤ leftF f n ∧ (0 ≤ leftF f n ↔ (nodesF f : Int) ≤ n) ∧ leftF f n ≤ n - 1 ∧ (0 ≤ leftF f n → leftF f n = n - nodesF f)
 | .mk _ _ _ ks, n, h => by
  obtain ⟨a, b, c, d⟩ := leftL_spec ks (n - 1) (by omega)
  simp only [leftF, nodesF]
  omega
theorem leftL_spec : ∀ (l : List Form) (n : Int), -1 ≤ n → -1 ≤ leftL l n ∧ (0 ≤ leftL l n ↔ (nodesL l : Int) ≤ n) ∧ leftL l n ≤ n ∧ (0 ≤ leftL l n → leftL l n = n - nodesL l)
 | [], n, h => by simp only [leftL, nodesL]; omega
 | x :: l, n, h => by
  simp only [leftL, nodesL]
  have := nodesF_pos x
  split
  ·rename_i h0
   obtain ⟨a, b, c, d⟩ := leftF_spec x n h0
   obtain ⟨a', b', c', d'⟩ := leftL_spec l (leftF x n) a
   omega
  ·omega
end
theorem left_loop (p0 : Int) (p1 p2 : Bs) (ks : List Form) (hF : ∀ x ∈ ks, ∀ q : Int, 0 ≤ q → q < big → lim.left x q = some (leftF x q)) :
  ∀ (r : List Form) (i : Nat) (q : Int), ks.drop i = r → i + r.length = ks.length → -1 ≤ q → q < big → ks.length < big →
   ∃ j, lim.left_L0 p0 p1 p2 ks (q, (i : Int)) = some (leftL r q, j)
 | [], i, q, h, hl, hq, hb, hi => by
  simp only [List.length_nil, Nat.add_zero] at hl
  rw [left_L0_eq]
  unfold left_L0_R
  dsimp only
  rw [cnd_f (by simp; omega)]
  simp [sumK, leftL]
 | x :: r, i, q, h, hl, hq, hb, hi => by
  obtain ⟨h1, h2, h3⟩ := idx_drop h
  have hx := mem_drop h
  simp only [List.length_cons] at hl
  rw [left_L0_eq]
  unfold left_L0_R
  dsimp only
  rw [cnd_t (by simp; omega)]
  by_cases h0 : 0 ≤ q
  ·obtain ⟨a, b, c, d⟩ := leftF_spec x q h0
   obtain ⟨j, hj⟩ := left_loop p0 p1 p2 ks hF r (i + 1) (leftF x q) h2 (by omega) a (by omega) hi
   unfold big at hi
   refine ⟨j, ?_⟩
   rw [cnd_t (by simp; omega), opK_s h1, Form.eta, opK_s (hF x hx q h0 hb), cnd_t (ok64_of (by omega) (by omega)), sumK_inr, i1, hj]
   simp only [leftL, h0, if_true]
  ·rw [cnd_f (by simp; omega)]
   exact ⟨i, by simp only [sumK_inl, leftL, h0, if_false]⟩
theorem left_lim : ∀ f : Form, nodesF f < big → ∀ q : Int, 0 ≤ q → q < big → lim.left f q = some (leftF f q) := by
 refine form_induct fun f ih hb q hq hqb => ?_
 rw [nodesF_eq] at hb
 have hl := length_le_nodesL f.kids
 obtain ⟨j, h⟩ : ∃ j, lim.left_L0 f.kind f.text f.home f.kids (q - 1, 0) = some (leftL f.kids (q - 1), j) := left_loop f.kind f.text f.home f.kids (fun x hx => ih x hx (by have := nodesF_mem hx; omega)) f.kids 0 (q - 1) (by simp) (by simp) (by omega) (by omega) (by omega)
 unfold big at hqb
 rw [left_eq]
 unfold left_c
 simp only [left_L0_K, chk_eq, opK_some']
 rw [cnd_t (ok64_of (by omega) (by omega)), opK_s h, leftF_eq]
theorem few_lim (f : Form) (hb : nodesF f < big) (q : Nat) (hq : q < big) : lim.Few f q = some (decide (nodesF f ≤ q)) := by
 rw [Few_eq]
 unfold Few_c
 rw [Form.eta, opK_s (left_lim f hb q (by omega) (by omega))]
 obtain ⟨a, b, c, d⟩ := leftF_spec f q (by omega)
 congr 1
 apply decide_eq_decide.2
 omega
theorem requal_loop (p0 : Int) (p1 p2 : Bs) (k1 : List Form) (p4 : Int) (p5 p6 : Bs) (k2 : List Form) (hF : ∀ x ∈ k1, ∀ y, lim.rEqual x y = some (decide (x = y))) (hlen : k1.length = k2.length) (hb : k1.length < big) :
  ∀ (r1 r2 : List Form) (i : Nat), k1.drop i = r1 → k2.drop i = r2 → i + r1.length = k1.length →
   (r1 = r2 → ∃ j, lim.rEqual_L0 p0 p1 p2 k1 p4 p5 p6 k2 (i : Int) = some (.inr j)) ∧ (r1 ≠ r2 → ∃ j, lim.rEqual_L0 p0 p1 p2 k1 p4 p5 p6 k2 (i : Int) = some (.inl j))
 | [], r2, i, h1, h2, hl => by
  simp only [List.length_nil, Nat.add_zero] at hl
  have : r2 = [] := by rw [← h2]; exact List.drop_eq_nil_of_le (by omega)
  subst this
  refine ⟨fun _ => ?_, fun h => absurd rfl h⟩
  rw [rEqual_L0_eq]
  unfold rEqual_L0_R
  dsimp only
  rw [cnd_f (by simp; omega), sumK_inl]
  exact ⟨_, rfl⟩
 | x :: r1, r2, i, h1, h2, hl => by
  obtain ⟨a1, a2, a3⟩ := idx_drop h1
  have hx := mem_drop h1
  simp only [List.length_cons] at hl
  cases r2 with
  | nil =>
   have := List.drop_eq_nil_iff.1 h2
   omega
  | cons y r2 =>
   obtain ⟨b1, b2, b3⟩ := idx_drop h2
   have ih := requal_loop p0 p1 p2 k1 p4 p5 p6 k2 hF hlen hb r1 r2 (i + 1) a2 b2 (by omega)
   unfold big at hb
   rw [rEqual_L0_eq]
   unfold rEqual_L0_R
   dsimp only
   rw [cnd_t (by simp; omega), opK_s a1, opK_s b1, Form.eta, Form.eta, opK_s (hF x hx y)]
   by_cases hxy : x = y
   ·subst hxy
    rw [cnd_f (by simp), cnd_t (ok64_of (by omega) (by omega)), sumK_inr, i1]
    refine ⟨fun h => ih.1 (by injection h), fun h => ih.2 (fun e => h (by rw [e]))⟩
   ·rw [cnd_t (by simp [hxy]), sumK_inl]
    exact ⟨fun h => absurd (by injection h) hxy, fun _ => ⟨_, rfl⟩⟩
theorem requal_lim : ∀ a : Form, nodesF a < big → ∀ b, lim.rEqual a b = some (decide (a = b)) := by
 refine form_induct fun a ih hb b => ?_
 rw [nodesF_eq] at hb
 have hl := length_le_nodesL a.kids
 rw [rEqual_eq]
 unfold rEqual_c
 by_cases h1 : a.kind = b.kind
 ·rw [cnd_f (by simp [h1])]
  by_cases h2 : a.text = b.text
  ·rw [cnd_f (by simp [h2])]
   by_cases h3 : a.home = b.home
   ·rw [cnd_f (by simp [h3])]
    by_cases h4 : a.kids.length = b.kids.length
    ·rw [cnd_f (by simp [h4])]
     simp only [rEqual_L0_K, chk_eq, opK_some']
     have hloop := requal_loop a.kind a.text a.home a.kids b.kind b.text b.home b.kids (fun x hx y => ih x hx (by have := nodesF_mem hx; omega) y) h4 (by omega) a.kids b.kids 0 (by simp) (by simp) (by simp)
     by_cases h5 : a.kids = b.kids
     ·obtain ⟨j, hj⟩ := hloop.1 h5
      rw [opK_s (by simpa using hj), sumK_inr]
      simp [(form_eq a b).2 ⟨h1, h2, h3, h5⟩]
     ·obtain ⟨j, hj⟩ := hloop.2 h5
      rw [opK_s (by simpa using hj), sumK_inl]
      have : ¬ a = b := fun e => h5 (by rw [e])
      simp [this]
    ·rw [cnd_t (by simp; omega)]
     have : ¬ a = b := fun e => h4 (by rw [e])
     simp [this]
   ·rw [cnd_t (by simp [h3])]
    have : ¬ a = b := fun e => h3 (by rw [e])
    simp [this]
  ·rw [cnd_t (by simp [h2])]
   have : ¬ a = b := fun e => h2 (by rw [e])
   simp [this]
 ·rw [cnd_t (by simp [h1])]
  have : ¬ a = b := fun e => h1 (by rw [e])
  simp [this]
theorem efunc_loop (k2 k1 : List Form) (hF : ∀ x ∈ k1, ∀ y, lim.Equal x y = some (decide (x = y))) (hlen : k1.length = k2.length) (hb : k1.length < big) :
  ∀ (r1 r2 : List Form) (i : Nat), k1.drop i = r1 → k2.drop i = r2 → i + r1.length = k1.length →
   (r1 = r2 → ∃ j, lim.EqualFunc_L0 k2 k1 k1.length (i : Int) = some (.inr j)) ∧ (r1 ≠ r2 → ∃ j, lim.EqualFunc_L0 k2 k1 k1.length (i : Int) = some (.inl j))
 | [], r2, i, h1, h2, hl => by
  simp only [List.length_nil, Nat.add_zero] at hl
  have : r2 = [] := by rw [← h2]; exact List.drop_eq_nil_of_le (by omega)
  subst this
  refine ⟨fun _ => ?_, fun h => absurd rfl h⟩
  rw [EqualFunc_L0_eq]
  unfold EqualFunc_L0_R
  dsimp only
  rw [cnd_f (by simp; omega), sumK_inl]
  exact ⟨_, rfl⟩
 | x :: r1, r2, i, h1, h2, hl => by
  obtain ⟨a1, a2, a3⟩ := idx_drop h1
  have hx := mem_drop h1
  simp only [List.length_cons] at hl
  cases r2 with
  | nil =>
   have := List.drop_eq_nil_iff.1 h2
   omega
  | cons y r2 =>
   obtain ⟨b1, b2, b3⟩ := idx_drop h2
   have ih := efunc_loop k2 k1 hF hlen hb r1 r2 (i + 1) a2 b2 (by omega)
   unfold big at hb
   rw [EqualFunc_L0_eq]
   unfold EqualFunc_L0_R
   dsimp only
   rw [cnd_t (by simp; omega), opK_s a1, opK_s b1, Form.eta, Form.eta, opK_s (hF x hx y)]
   by_cases hxy : x = y
   ·subst hxy
    rw [cnd_f (by simp), cnd_t (ok64_of (by omega) (by omega)), sumK_inr, i1]
    refine ⟨fun h => ih.1 (by injection h), fun h => ih.2 (fun e => h (by rw [e]))⟩
   ·rw [cnd_t (by simp [hxy]), sumK_inl]
    exact ⟨fun h => absurd (by injection h) hxy, fun _ => ⟨_, rfl⟩⟩
theorem equal_lim : ∀ a : Form, nodesF a < big → ∀ b, lim.Equal a b = some (decide (a = b)) := by
 refine form_induct fun a ih hb b => ?_
 rw [nodesF_eq] at hb
 have hl := length_le_nodesL a.kids
 rw [Equal_eq]
 unfold Equal_c
 by_cases h1 : a.kind = b.kind
 ·rw [cnd_t (by simp [h1])]
  by_cases h2 : a.text = b.text
  ·rw [cnd_t (by simp [h2])]
   by_cases h3 : a.home = b.home
   ·rw [cnd_t (by simp [h3]), EqualFunc_f22_eq]
    unfold EqualFunc_f22_c
    by_cases h4 : a.kids.length = b.kids.length
    ·rw [cnd_f (by simp [h4])]
     simp only [EqualFunc_L0_K, chk_eq, opK_some']
     have hloop := efunc_loop b.kids a.kids (fun x hx y => ih x hx (by have := nodesF_mem hx; omega) y) h4 (by omega) a.kids b.kids 0 (by simp) (by simp) (by simp)
     by_cases h5 : a.kids = b.kids
     ·obtain ⟨j, hj⟩ := hloop.1 h5
      rw [opK_s (o := lim.EqualFunc_L0 _ _ _ _) (by simpa using hj), sumK_inr, opK_some']
      simp [(form_eq a b).2 ⟨h1, h2, h3, h5⟩]
     ·obtain ⟨j, hj⟩ := hloop.2 h5
      rw [opK_s (o := lim.EqualFunc_L0 _ _ _ _) (by simpa using hj), sumK_inl, opK_some']
      have : ¬ a = b := fun e => h5 (by rw [e])
      simp [this]
    ·rw [cnd_t (by simp; omega), opK_some']
     have : ¬ a = b := fun e => h4 (by rw [e])
     simp [this]
   ·rw [cnd_f (by simp [h3])]
    have : ¬ a = b := fun e => h3 (by rw [e])
    simp [this]
  ·rw [cnd_f (by simp [h2])]
   have : ¬ a = b := fun e => h2 (by rw [e])
   simp [this]
 ·rw [cnd_f (by simp [h1])]
  have : ¬ a = b := fun e => h1 (by rw [e])
  simp [this]
end Go.Proofs.YtpdgbhjhodhkiaaGreatDoor.AI
namespace Go.Proofs.YtpdgbhjhodhkiaaGreatDoor.AI
open Go Go.Proofs
def text64 : Nat := 140737488355328
def digB (b : UInt8) : Bool := decide (48 ≤ b.toNat) && decide (b.toNat ≤ 57)
def decF (s : Bs) : Bool := s.all digB && (!(s == []) && (decide (s = [48]) || !(decide (s.head? = some 48))))
theorem b48 (b : UInt8) : ((b.toNat : Int) == 48) = decide (b = 48) := by
 rw [Bool.eq_iff_iff]
 simp only [beq_iff_eq, decide_eq_true_eq]
 constructor
 ·intro h
  apply UInt8.toNat_inj.1
  have : (48 : UInt8).toNat = 48 := rfl
  omega
 ·rintro rfl; rfl
theorem bnum (b c : UInt8) : ((b.toNat : Int) == (c.toNat : Int)) = decide (b = c) := by
 rw [Bool.eq_iff_iff]
 simp only [beq_iff_eq, decide_eq_true_eq]
 constructor
 ·intro h
  apply UInt8.toNat_inj.1
  omega
 ·rintro rfl; rfl
theorem decimal_lim (s : Bs) (hs : s.length ≤ text64) : lim.decimal s = some (decF s) := by
 unfold text64 at hs
 have key : (s.all digB = true ∧ ∃ o, lim.decimal_L0 s s.length 0 = some (.inr o)) ∨ (s.all digB = false ∧ ∃ o, lim.decimal_L0 s s.length 0 = some (.inl o)) := by
  refine all_loop (fun v => decimal_L0_eq s s.length v) digB (fun i x h1 h2 h3 K => ?_) (fun K => ?_)
  ·unfold decimal_L0_R
   try dsimp only
   rw [cnd_t (by simp; omega), opK_s h2]
   unfold digB
   refine ⟨fun h => ?_, fun h => ?_⟩
   ·simp only [Bool.and_eq_true, decide_eq_true_eq] at h
    rw [cnd_f (by simp; omega), cnd_f (by simp; omega), cnd_t (ok64_of (by omega) (by omega)), i1]
   ·by_cases h4 : x.toNat < 48
    ·rw [cnd_t (by simp; omega)]
     exact ⟨_, rfl⟩
    ·rw [cnd_f (by simp; omega), cnd_t (by simp at h ⊢; omega)]
     exact ⟨_, rfl⟩
  ·unfold decimal_L0_R
   try dsimp only
   rw [cnd_f (by simp)]
   exact ⟨_, rfl⟩
 rw [decimal_eq]
 unfold decimal_c
 simp only [decimal_L0_K, chk_eq, opK_some']
 cases s with
 | nil => rw [cnd_t (by simp)]; rfl
 | cons b s =>
  rw [cnd_f (by simp)]
  have hlen : decide ((b :: s).length ≤ 140737488355328) = true := by simpa using hs
  by_cases hz : s = []
  ·subst hz
   rw [cnd_f (by simp), cnd_t hlen]
   rcases key with ⟨k1, o, k2⟩ | ⟨k1, o, k2⟩
   ·rw [opK_s k2, sumK_inr]
    unfold decF
    rw [k1]
    simp
   ·rw [opK_s k2, sumK_inl]
    unfold decF
    rw [k1]
    rfl
  ·have hl : 1 ≤ s.length := by
    cases s with
    | nil => exact absurd rfl hz
    | cons c s => simp
   rw [cnd_t (by simp; omega), opK_s idx0, b48]
   by_cases hb : b = 48
   ·rw [cnd_t (by simp [hb])]
    unfold decF
    subst hb
    simp [hz]
   ·rw [cnd_f (by simp [hb]), cnd_t hlen]
    rcases key with ⟨k1, o, k2⟩ | ⟨k1, o, k2⟩
    ·rw [opK_s k2, sumK_inr]
     unfold decF
     rw [k1]
     simp [hb]
    ·rw [opK_s k2, sumK_inl]
     unfold decF
     rw [k1]
     rfl
theorem digits_lim (s : Bs) (hs : s.length ≤ text64) : lim.digits s = some (decF s) := by
 unfold text64 at hs
 have key : (s.all digB = true ∧ ∃ o, lim.digits_L0 s 0 = some (.inr o)) ∨ (s.all digB = false ∧ ∃ o, lim.digits_L0 s 0 = some (.inl o)) := by
  refine all_loop (fun v => digits_L0_eq s v) digB (fun i x h1 h2 h3 K => ?_) (fun K => ?_)
  ·unfold digits_L0_R
   try dsimp only
   rw [cnd_t (by simp; omega), opK_s h2, opK_s h2]
   unfold digB
   refine ⟨fun h => ?_, fun h => ?_⟩
   ·simp only [Bool.and_eq_true, decide_eq_true_eq] at h
    rw [cnd_f (by simp; omega), cnd_f (by simp; omega), cnd_t (ok64_of (by omega) (by omega)), i1]
   ·by_cases h4 : x.toNat < 48
    ·rw [cnd_t (by simp; omega)]
     exact ⟨_, rfl⟩
    ·rw [cnd_f (by simp; omega), cnd_t (by simp at h ⊢; omega)]
     exact ⟨_, rfl⟩
  ·unfold digits_L0_R
   try dsimp only
   rw [cnd_f (by simp)]
   exact ⟨_, rfl⟩
 rw [digits_eq]
 unfold digits_c
 simp only [digits_L0_K, chk_eq, opK_some']
 rcases key with ⟨k1, o, k2⟩ | ⟨k1, o, k2⟩
 ·rw [opK_s k2, sumK_inr]
  unfold decF
  rw [k1]
  cases s with
  | nil => rfl
  | cons b s =>
   by_cases h48 : (b :: s) = [48]
   ·rw [cnd_t (by simp [h48])]
    simp [h48]
   ·rw [cnd_f (by simpa using h48), cnd_t (by simp), opK_s idx0]
    have := b48 b
    simp only [bne, this]
    simp only [h48]
    simp
 ·rw [opK_s k2, sumK_inl]
  unfold decF
  rw [k1]
  rfl
def intF : Bs → Bool
 | 45 :: t => decF t && !(t == [48])
 | s => decF s
theorem intF_minus (t : Bs) : intF (45 :: t) = (decF t && !(t == [48])) := rfl
theorem integer_lim (s : Bs) (hs : s.length ≤ text64) : lim.integer s = some (intF s) := by
 rw [integer_eq]
 unfold integer_c
 have hcase : (∃ t, s = 45 :: t) ∨ (intF s = decF s ∧ Lib.hasPrefix s [45] = false) := by
  cases s with
  | nil => exact .inr ⟨rfl, rfl⟩
  | cons b t =>
   by_cases hb : b = 45
   ·subst hb; exact .inl ⟨t, rfl⟩
   ·refine .inr ⟨?_, ?_⟩
    ·unfold intF
     split
     ·rename_i h; injection h with h _; exact absurd h hb
     ·rfl
    ·simp only [Lib.hasPrefix, List.isPrefixOf, Bool.and_eq_false_iff, beq_eq_false_iff_ne, ne_eq]
     exact .inl fun e => hb e.symm
 rcases hcase with ⟨t, rfl⟩ | ⟨h1, h2⟩
 ·have h3 : Lib.hasPrefix (45 :: t) [45] = true := by simp [Lib.hasPrefix, List.isPrefixOf]
  have h4 : Lib.trimPrefix (45 :: t) [45] = t := by simp [Lib.trimPrefix, h3]
  simp only [List.length_cons] at hs
  rw [h4, h3, opK_s (decimal_lim t (by omega)), intF_minus]
  cases hd : decF t with
  | true => rw [cnd_t rfl, cnd_t rfl]; rfl
  | false => rw [cnd_f rfl]; rfl
 ·have h4 : Lib.trimPrefix s [45] = s := by simp [Lib.trimPrefix, h2]
  rw [h4, h2, h1, opK_s (decimal_lim s hs)]
  cases hd : decF s with
  | true => rw [cnd_t rfl, cnd_f rfl]
  | false => rw [cnd_f rfl]
theorem whole_lim (s : Bs) (hs : s.length ≤ text64) : lim.whole s = some (intF s) := by
 have hb : text64 < 9223372036854775807 := by unfold text64; omega
 rw [whole_eq]
 unfold whole_c
 cases s with
 | nil => rw [cnd_f (by simp), opK_s (digits_lim [] hs)]; rfl
 | cons b t =>
  rw [cnd_t (by simp), opK_s idx0]
  have h45 : ((b.toNat : Int) == 45) = decide (b = 45) := bnum b 45
  rw [h45]
  by_cases hb : b = 45
  ·subst hb
   rw [cnd_t (by simp)]
   by_cases ht : t = [48]
   ·subst ht
    rw [cnd_f (by simp)]
    rfl
   ·rw [cnd_t (by simpa using ht), cnd_t (by simp)]
    have e : List.take ((45 :: t : Bs).length - 1) (List.drop 1 (45 :: t : Bs)) = t := by simp
    simp only [List.length_cons] at hs
    rw [e, opK_s (digits_lim t (by omega)), intF_minus]
    have : (t == [48]) = false := by simpa using ht
    rw [this]
    simp
  ·rw [cnd_f (by simp [hb]), opK_s (digits_lim _ hs)]
   unfold intF
   split
   ·rename_i h; injection h with h _; exact absurd h hb
   ·rfl
def hexSet : Bs := [48, 49, 50, 51, 52, 53, 54, 55, 56, 57, 97, 98, 99, 100, 101, 102]
theorem dropWhile_nil {X : Type} (p : X → Bool) : ∀ l : List X, (l.dropWhile p = []) ↔ l.all p = true
 | [] => by simp
 | x :: l => by
  rw [List.dropWhile_cons]
  split
  ·rename_i h; rw [dropWhile_nil p l]; simp [h]
  ·rename_i h; simp [h]
theorem trimS_nil (s cs : Bs) : (Lib.trimS s cs == []) = s.all cs.contains := by
 rw [Bool.eq_iff_iff, beq_iff_eq]
 unfold Lib.trimS Lib.trimLeftS Lib.trimRightS
 rw [dropWhile_nil]
 have hrev : ∀ l : Bs, l.reverse.all cs.contains = l.all cs.contains := fun l => by simp
 rw [hrev]
 constructor
 ·intro h
  have : s.reverse.dropWhile cs.contains = [] := by
   cases hd : s.reverse.dropWhile cs.contains with
   | nil => rfl
   | cons x l =>
    rw [hd] at h
    have hx := List.head?_dropWhile_not cs.contains s.reverse
    rw [hd] at hx
    simp at hx h
    simp [h.1] at hx
  rw [dropWhile_nil, hrev] at this
  exact this
 ·intro h
  have h2 : s.reverse.dropWhile cs.contains = [] := by rw [dropWhile_nil, hrev]; exact h
  rw [h2]
  rfl
end Go.Proofs.YtpdgbhjhodhkiaaGreatDoor.AI
namespace Go.Proofs.YtpdgbhjhodhkiaaGreatDoor.AI
open Go Go.Proofs
theorem beqN (x c : UInt8) : (x == c) = decide (x.toNat = c.toNat) := by
 rw [Bool.eq_iff_iff]
 simp only [beq_iff_eq, decide_eq_true_eq]
 exact ⟨fun h => by rw [h], fun h => UInt8.toNat_inj.1 h⟩
theorem hexSet_iff (x : UInt8) : hexSet.contains x = (decide (48 ≤ x.toNat ∧ x.toNat ≤ 57) || decide (97 ≤ x.toNat ∧ x.toNat ≤ 102)) := by
 rw [Bool.eq_iff_iff]
 simp only [hexSet, List.contains_cons, List.contains_nil, beqN, Bool.or_eq_true, decide_eq_true_eq, Bool.or_false]
 simp only [show (48 : UInt8).toNat = 48 from rfl, show (49 : UInt8).toNat = 49 from rfl, show (50 : UInt8).toNat = 50 from rfl, show (51 : UInt8).toNat = 51 from rfl, show (52 : UInt8).toNat = 52 from rfl, show (53 : UInt8).toNat = 53 from rfl, show (54 : UInt8).toNat = 54 from rfl, show (55 : UInt8).toNat = 55 from rfl, show (56 : UInt8).toNat = 56 from rfl, show (57 : UInt8).toNat = 57 from rfl, show (97 : UInt8).toNat = 97 from rfl, show (98 : UInt8).toNat = 98 from rfl, show (99 : UInt8).toNat = 99 from rfl, show (100 : UInt8).toNat = 100 from rfl, show (101 : UInt8).toNat = 101 from rfl, show (102 : UInt8).toNat = 102 from rfl]
 omega
theorem hexadecimal_lim (s : Bs) (n : Int) (hs : s.length ≤ text64) : lim.hexadecimal s n = some (decide ((s.length : Int) = n) && s.all hexSet.contains) := by
 unfold text64 at hs
 rw [hexadecimal_eq]
 unfold hexadecimal_c
 by_cases hn : (s.length : Int) = n
 ·rw [cnd_t (by simp [hn]), cnd_t (by simp; omega)]
  have := trimS_nil s hexSet
  unfold hexSet at this
  rw [this]
  simp [hn, hexSet]
 ·rw [cnd_f (by simp [hn])]
  simp [hn]
theorem hex_lim (s : Bs) (n : Int) (hs : s.length ≤ text64) : lim.hex s n = some (decide ((s.length : Int) = n) && s.all hexSet.contains) := by
 unfold text64 at hs
 have key : (s.all hexSet.contains = true ∧ ∃ o, lim.hex_L0 s n 0 = some (.inr o)) ∨ (s.all hexSet.contains = false ∧ ∃ o, lim.hex_L0 s n 0 = some (.inl o)) := by
  refine all_loop (fun v => hex_L0_eq s n v) hexSet.contains (fun i x h1 h2 h3 K => ?_) (fun K => ?_)
  ·unfold hex_L0_R
   try dsimp only
   rw [cnd_t (by simp; omega)]
   simp only [opK_s h2, hexSet_iff]
   refine ⟨fun h => ?_, fun h => ?_⟩
   ·simp only [Bool.or_eq_true, decide_eq_true_eq] at h
    by_cases h48 : x.toNat < 48
    ·omega
    ·rw [cnd_f (by simp; omega)]
     by_cases h57 : x.toNat > 57
     ·rw [cnd_t (by simp; omega), cnd_f (by simp; omega), cnd_f (by simp; omega), cnd_t (ok64_of (by omega) (by omega)), i1]
     ·rw [cnd_f (by simp; omega), cnd_t (ok64_of (by omega) (by omega)), i1]
   ·simp only [Bool.or_eq_false_iff, decide_eq_false_iff_not] at h
    by_cases h48 : x.toNat < 48
    ·rw [cnd_t (by simp; omega), cnd_t (by simp; omega)]
     exact ⟨_, rfl⟩
    ·rw [cnd_f (by simp; omega), cnd_t (by simp; omega)]
     by_cases h97 : x.toNat < 97
     ·rw [cnd_t (by simp; omega)]
      exact ⟨_, rfl⟩
     ·rw [cnd_f (by simp; omega), cnd_t (by simp; omega)]
      exact ⟨_, rfl⟩
  ·unfold hex_L0_R
   try dsimp only
   rw [cnd_f (by simp)]
   exact ⟨_, rfl⟩
 rw [hex_eq]
 unfold hex_c
 simp only [hex_L0_K, chk_eq, opK_some']
 rcases key with ⟨k1, o, k2⟩ | ⟨k1, o, k2⟩
 ·rw [opK_s k2, sumK_inr, k1]
  simp
  rw [Bool.eq_iff_iff]
  simp
 ·rw [opK_s k2, sumK_inl, k1]
  simp
def numL (a : Nat) (s : Bs) : Nat := s.foldl (fun a c => a * 10 + (c.toNat - 48)) a
theorem numL_nil (a : Nat) : numL a [] = a := by unfold numL; rw [List.foldl_nil]
theorem numL_cons (a : Nat) (c : UInt8) (r : Bs) : numL a (c :: r) = numL (a * 10 + (c.toNat - 48)) r := by unfold numL; rw [List.foldl_cons]
theorem numL_ge : ∀ (s : Bs) (a : Nat), a * 10 ^ s.length ≤ numL a s
 | [], a => by rw [numL_nil]; simp
 | c :: r, a => by
  have := numL_ge r (a * 10 + (c.toNat - 48))
  rw [numL_cons]
  simp only [List.length_cons, Nat.pow_succ]
  refine Nat.le_trans ?_ this
  rw [Nat.mul_comm (10 ^ r.length) 10, ← Nat.mul_assoc]
  exact Nat.mul_le_mul_right _ (by omega)
theorem numL_le (s : Bs) (a : Nat) : a ≤ numL a s := by
 have := numL_ge s a
 have h : 1 ≤ 10 ^ s.length := Nat.one_le_pow _ _ (by omega)
 exact Nat.le_trans (Nat.le_mul_of_pos_right _ h) this
theorem numL_lt : ∀ (s : Bs) (a : Nat), s.all digB = true → numL a s < (a + 1) * 10 ^ s.length
 | [], a, _ => by rw [numL_nil]; simp
 | c :: r, a, h => by
  simp only [List.all_cons, Bool.and_eq_true] at h
  have := numL_lt r (a * 10 + (c.toNat - 48)) h.2
  rw [numL_cons]
  simp only [List.length_cons, Nat.pow_succ]
  have hc := h.1
  simp only [digB, Bool.and_eq_true, decide_eq_true_eq] at hc
  refine Nat.lt_of_lt_of_le this ?_
  rw [Nat.mul_comm (10 ^ r.length) 10, ← Nat.mul_assoc]
  exact Nat.mul_le_mul_right _ (by omega)
theorem parse_num : ∀ (s : Bs) (a : Nat), s.all digB = true → (numL a s < 18446744073709551616 → Lib.parseUint10 a s = .ok (numL a s)) ∧ (18446744073709551616 ≤ numL a s → Lib.parseUint10 a s = .range ∨ 18446744073709551616 ≤ a)
 | [], a, _ => by
  rw [numL_nil]
  exact ⟨fun _ => rfl, fun h => .inr h⟩
 | c :: r, a, h => by
  simp only [List.all_cons, Bool.and_eq_true] at h
  have hc := h.1
  simp only [digB, Bool.and_eq_true, decide_eq_true_eq] at hc
  obtain ⟨i1, i2⟩ := parse_num r (a * 10 + (c.toNat - 48)) h.2
  have hle := numL_le r (a * 10 + (c.toNat - 48))
  rw [numL_cons]
  simp only [Lib.parseUint10]
  rw [if_pos hc]
  refine ⟨fun hn => ?_, fun hn => ?_⟩
  ·rw [if_neg (by omega), if_neg (by omega)]
   exact i1 hn
  ·by_cases h1 : 1844674407370955162 ≤ a
   ·rw [if_pos h1]; exact .inl rfl
   ·rw [if_neg h1]
    by_cases h2 : 18446744073709551616 ≤ a * 10 + (c.toNat - 48)
    ·rw [if_pos h2]; exact .inl rfl
    ·rw [if_neg h2]
     rcases i2 hn with h3 | h3
     ·exact .inl h3
     ·exact absurd h3 h2
theorem atoi_num (s : Bs) (h : s.all digB = true) (hne : s ≠ []) : atoiOk s = decide (numL 0 s < 9223372036854775808) ∧ (numL 0 s < 9223372036854775808 → atoiVal s = (numL 0 s : Int)) := by
 cases s with
 | nil => exact absurd rfl hne
 | cons c r =>
  have hc := h
  simp only [List.all_cons, Bool.and_eq_true, digB, decide_eq_true_eq] at hc
  obtain ⟨p1, p2⟩ := parse_num (c :: r) 0 h
  unfold atoiOk atoiVal
  by_cases hb : numL 0 (c :: r) < 9223372036854775808
  ·have e : Lib.atoiAll (c :: r) = .ok (numL 0 (c :: r) : Int) := by
    unfold Lib.atoiAll Lib.parseMag
    simp only
    rw [if_neg (show ¬ (c.toNat = 43 ∨ c.toNat = 45) by omega), if_neg (by simp), p1 (by omega)]
    simp only
    rw [if_neg (by omega), if_neg (by omega), if_neg (by omega)]
   rw [e]
   simp [hb]
  ·have e : Lib.atoiAll (c :: r) = .range := by
    unfold Lib.atoiAll Lib.parseMag
    simp only
    rw [if_neg (show ¬ (c.toNat = 43 ∨ c.toNat = 45) by omega), if_neg (by simp)]
    by_cases hb2 : numL 0 (c :: r) < 18446744073709551616
    ·rw [p1 hb2]
     simp only
     rw [if_pos (by omega)]
    ·rcases p2 (by omega) with h3 | h3
     ·rw [h3]
     ·omega
   rw [e]
   simp [hb]
theorem decF_all {s : Bs} (h : decF s = true) : s.all digB = true ∧ s ≠ [] := by
 unfold decF at h
 simp only [Bool.and_eq_true, Bool.not_eq_true'] at h
 refine ⟨h.1, ?_⟩
 intro e
 subst e
 simp at h
theorem decF_len {s : Bs} (h : decF s = true) (k : Nat) (hk : numL 0 s < 10 ^ k) (hk1 : 1 ≤ k) : s.length ≤ k := by
 cases s with
 | nil => simp
 | cons c r =>
  by_cases hr : r = []
  ·subst hr; simpa using hk1
  ·unfold decF at h
   simp only [Bool.and_eq_true, Bool.or_eq_true, decide_eq_true_eq, List.all_cons, Bool.not_eq_true', decide_eq_false_iff_not] at h
   obtain ⟨⟨hc, _⟩, _, h2⟩ := h
   have hne : c ≠ 48 := by
    rcases h2 with h2 | h2
    ·injection h2 with _ h2; exact absurd h2 hr
    ·intro e; subst e; exact h2 rfl
   have h49 : 1 ≤ c.toNat - 48 := by
    simp only [digB, Bool.and_eq_true, decide_eq_true_eq] at hc
    have : c.toNat ≠ 48 := fun e => hne (UInt8.toNat_inj.1 e)
    omega
   have := numL_ge r (0 * 10 + (c.toNat - 48))
   rw [numL_cons] at hk
   have h3 : 10 ^ r.length ≤ (0 * 10 + (c.toNat - 48)) * 10 ^ r.length := Nat.le_mul_of_pos_left _ (by omega)
   have h4 : 10 ^ r.length < 10 ^ k := by omega
   have h5 := (Nat.pow_lt_pow_iff_right (a := 10) (by omega)).1 h4
   simp only [List.length_cons]
   omega
theorem small_lim (s : Bs) (q : Nat) (hq : q < 1000000) (hs : s.length ≤ text64) : lim.small s q = some (decF s && decide (numL 0 s ≤ q)) := by
 have hs' := hs
 unfold text64 at hs'
 rw [small_eq]
 unfold small_c
 rw [cnd_t (by simp; omega), opK_s (decimal_lim s hs)]
 cases hd : decF s with
 | false =>
  cases atoiOk s with
  | true => rw [cnd_t rfl, cnd_f rfl]; rfl
  | false => rw [cnd_f rfl, opK_s (decimal_lim s hs), hd, cnd_f rfl]; rfl
 | true =>
  obtain ⟨ha, hne⟩ := decF_all hd
  obtain ⟨h1, h2⟩ := atoi_num s ha hne
  rw [h1]
  by_cases hb : numL 0 s < 9223372036854775808
  ·rw [cnd_t (by simp [hb]), cnd_t rfl, h2 hb]
   simp
  ·rw [cnd_f (by simp [hb]), opK_s (decimal_lim s hs), hd, cnd_t rfl]
   simp
   omega
theorem label_lim (s : Bs) (hs : s.length ≤ text64) : lim.label s = some (decF s && decide (numL 0 s ≤ 999)) := by
 have hs' := hs
 unfold text64 at hs'
 rw [label_eq]
 unfold label_c
 by_cases h3 : s.length ≤ 3
 ·rw [cnd_t (by simp; omega), opK_s (digits_lim s hs)]
  cases hd : decF s with
  | false => rfl
  | true =>
   obtain ⟨ha, hne⟩ := decF_all hd
   have := numL_lt s 0 ha
   have h10 : 10 ^ s.length ≤ 10 ^ 3 := Nat.pow_le_pow_right (by omega) h3
   simp
   omega
 ·rw [cnd_f (by simp; omega)]
  cases hd : decF s with
  | false => rfl
  | true =>
   have : ¬ numL 0 s ≤ 999 := fun h => h3 (decF_len hd 3 (by omega) (by omega))
   simp [this]
end Go.Proofs.YtpdgbhjhodhkiaaGreatDoor.AI
namespace Go.Proofs.YtpdgbhjhodhkiaaGreatDoor.AI
open Go Go.Proofs
theorem wrap_u8 {n : Int} (h0 : 0 ≤ n) (h1 : n < 256) : IntKind.wrap .u8 n = n := by
 simp [IntKind.wrap, IntKind.bits, IntKind.signed]
 omega
theorem value_loop (s : Bs) : ∀ (r : Bs) (i a : Nat), s.drop i = r → i + r.length = s.length → r.all digB = true → numL a r < 1000000000000000000 → s.length < big →
  ∃ j, lim.value_L0 s ((a : Int), (i : Int)) = some ((numL a r : Int), j)
 | [], i, a, h, hl, hd, hn, hb => by
  simp only [List.length_nil, Nat.add_zero] at hl
  rw [value_L0_eq]
  unfold value_L0_R
  dsimp only
  rw [cnd_f (by simp; omega), sumK_inl, numL_nil]
  exact ⟨_, rfl⟩
 | c :: r, i, a, h, hl, hd, hn, hb => by
  obtain ⟨h1, h2, h3⟩ := idx_drop h
  simp only [List.length_cons] at hl
  simp only [List.all_cons, Bool.and_eq_true] at hd
  have hc := hd.1
  simp only [digB, Bool.and_eq_true, decide_eq_true_eq] at hc
  rw [numL_cons] at hn
  have hle := numL_le r (a * 10 + (c.toNat - 48))
  obtain ⟨j, hj⟩ := value_loop s r (i + 1) (a * 10 + (c.toNat - 48)) h2 (by omega) hd.2 hn hb
  unfold big at hb
  rw [value_L0_eq]
  unfold value_L0_R
  dsimp only
  rw [cnd_t (by simp; omega), cnd_t (ok64_of (by omega) (by omega)), opK_s h1, wrap_u8 (by omega) (by omega)]
  rw [cnd_t (ok64_of (by omega) (by omega)), cnd_t (ok64_of (by omega) (by omega)), cnd_t (ok64_of (by omega) (by omega)), sumK_inr]
  have e : 10 * (a : Int) + ((c.toNat : Int) - 48) = ((a * 10 + (c.toNat - 48) : Nat) : Int) := by omega
  rw [e, i1, hj, numL_cons]
  exact ⟨_, rfl⟩
theorem value_lim (s : Bs) (hd : s.all digB = true) (hs : s.length ≤ 18) : lim.value s = some (numL 0 s : Int) := by
 have hn := numL_lt s 0 hd
 have h10 : 10 ^ s.length ≤ 10 ^ 18 := Nat.pow_le_pow_right (by omega) hs
 obtain ⟨j, h⟩ : ∃ j, lim.value_L0 s (0, 0) = some ((numL 0 s : Int), j) := value_loop s s 0 0 (by simp) (by simp) hd (by omega) (by unfold big; omega)
 rw [value_eq]
 unfold value_c
 simp only [value_L0_K, chk_eq, opK_some']
 rw [opK_s h]
theorem gcd_step (a b : Nat) : Nat.gcd b (a % b) = Nat.gcd a b := by
 rw [Nat.gcd_comm a b, Nat.gcd_rec b a, Nat.gcd_comm]
theorem euclid1 : ∀ (n a b : Nat), b < n → ∃ j, lim.ratio_L0 ((a : Int), (b : Int)) = some ((Nat.gcd a b : Int), j)
 | 0, a, b, h => by omega
 | n + 1, a, b, h => by
  rw [ratio_L0_eq]
  unfold ratio_L0_R
  dsimp only
  by_cases hb : b = 0
  ·subst hb
   rw [cnd_f (by simp), sumK_inl]
   simp
  ·rw [cnd_t (by simp; omega), cnd_f (by simp; omega), sumK_inr]
   have e : Int.tmod (a : Int) (b : Int) = ((a % b : Nat) : Int) := rfl
   obtain ⟨j, hj⟩ := euclid1 n b (a % b) (by have := Nat.mod_lt a (Nat.pos_of_ne_zero hb); omega)
   rw [e, hj, gcd_step]
   exact ⟨_, rfl⟩
theorem euclid2 : ∀ (n a b : Nat), b < n → ∃ j, lim.rratio_L1 ((a : Int), (b : Int)) = some ((Nat.gcd a b : Int), j)
 | 0, a, b, h => by omega
 | n + 1, a, b, h => by
  rw [rratio_L1_eq]
  unfold rratio_L1_R
  dsimp only
  by_cases hb : b = 0
  ·subst hb
   rw [cnd_f (by simp), sumK_inl]
   simp
  ·rw [cnd_t (by simp; omega), cnd_f (by simp; omega), sumK_inr]
   have e : Int.tmod (a : Int) (b : Int) = ((a % b : Nat) : Int) := rfl
   obtain ⟨j, hj⟩ := euclid2 n b (a % b) (by have := Nat.mod_lt a (Nat.pos_of_ne_zero hb); omega)
   rw [e, hj, gcd_step]
   exact ⟨_, rfl⟩
theorem index_cons (b c : UInt8) (l : Bs) : Lib.index (b :: l) [c] = if c = b then 0 else if Lib.index l [c] = -1 then -1 else Lib.index l [c] + 1 := by
 rw [Lib.index]
 have : ([c] : Bs).isPrefixOf (b :: l) = decide (c = b) := by
  simp only [List.isPrefixOf, Bool.and_true]
  rw [Bool.eq_iff_iff]; simp
 rw [this]
 by_cases h : c = b
 ·simp [h]
 ·simp [h]
theorem index_nil (c : UInt8) : Lib.index [] [c] = -1 := rfl
theorem index_spec (c : UInt8) : ∀ s : Bs, (Lib.index s [c] = -1 ∧ s.all (fun b => !(c == b)) = true) ∨ ∃ i : Nat, Lib.index s [c] = (i : Int) ∧ i < s.length ∧ s = s.take i ++ c :: s.drop (i + 1) ∧ (s.take i).all (fun b => !(c == b)) = true
 | [] => .inl ⟨rfl, rfl⟩
 | b :: l => by
  rw [index_cons]
  by_cases h : c = b
  ·subst h
   exact .inr ⟨0, by simp, by simp, by simp, by simp⟩
  ·rw [if_neg h]
   rcases index_spec c l with ⟨h1, h2⟩ | ⟨i, h1, h2, h3, h4⟩
   ·rw [if_pos h1]
    exact .inl ⟨rfl, by simp [h, h2]⟩
   ·rw [if_neg (by omega)]
    refine .inr ⟨i + 1, by omega, by simp; omega, ?_, ?_⟩
    ·simp only [List.take_succ_cons, List.drop_succ_cons, List.cons_append]
     exact congrArg _ h3
    ·simp only [List.take_succ_cons, List.all_cons, h4]
     simp [h]
theorem slash_loop (s : Bs) : ∀ (r : Bs) (i : Nat) (a : Int), s.drop i = r → i + r.length = s.length → s.length < big →
  ∃ j, lim.rratio_L0 s (a, (i : Int)) = some (if a < 0 then (if Lib.index r [47] = -1 then a else (i : Int) + Lib.index r [47]) else a, j)
 | [], i, a, h, hl, hb => by
  simp only [List.length_nil, Nat.add_zero] at hl
  rw [rratio_L0_eq]
  unfold rratio_L0_R
  dsimp only
  rw [cnd_f (by simp; omega), sumK_inl, index_nil]
  simp
 | c :: r, i, a, h, hl, hb => by
  obtain ⟨h1, h2, h3⟩ := idx_drop h
  simp only [List.length_cons] at hl
  have ih := fun a => slash_loop s r (i + 1) a h2 (by omega) hb
  unfold big at hb
  rw [rratio_L0_eq]
  unfold rratio_L0_R
  dsimp only
  have h47 : ((c.toNat : Int) == 47) = decide (c = 47) := bnum c 47
  have hge := Lib.index_ge r [47]
  rw [cnd_t (by simp; omega), opK_s h1, h47, index_cons]
  by_cases hc : c = 47
  ·subst hc
   rw [cnd_t (by simp)]
   by_cases ha : a < 0
   ·obtain ⟨j, hj⟩ := ih (i : Int)
    rw [cnd_t (by simp [ha]), cnd_t (ok64_of (by omega) (by omega)), sumK_inr, i1, hj, if_neg (by omega), if_pos ha]
    simp
   ·obtain ⟨j, hj⟩ := ih a
    rw [cnd_f (by simp [ha]), cnd_t (ok64_of (by omega) (by omega)), sumK_inr, i1, hj, if_neg ha, if_neg ha]
    exact ⟨_, rfl⟩
  ·obtain ⟨j, hj⟩ := ih a
   rw [cnd_f (by simp [hc]), cnd_t (ok64_of (by omega) (by omega)), sumK_inr, i1, hj]
   refine ⟨j, ?_⟩
   congr 2
   by_cases ha : a < 0
   ·have hne : ¬ ((47 : UInt8) = c) := fun e => hc e.symm
    rw [if_pos ha, if_pos ha]
    simp only [hne, if_false]
    by_cases hi : Lib.index r [47] = -1
    ·simp [hi]
    ·simp only [hi, if_false]
     rw [if_neg (by omega)]
     omega
   ·rw [if_neg ha, if_neg ha]
def absB : Bs → Bs
 | 45 :: t => t
 | s => s
theorem absB_minus (t : Bs) : absB (45 :: t) = t := rfl
def ratP (n d : Bs) : Bool :=
 if intF n = false ∨ n = [48] ∨ decF d = false ∨ d = [48] ∨ d = [49] then false else
 if 18 < (absB n).length ∨ 18 < d.length then true else decide (Nat.gcd (numL 0 (absB n)) (numL 0 d) = 1)
def ratF (s : Bs) : Bool := if Lib.index s [47] = -1 then false else ratP (s.take (Lib.index s [47]).toNat) (s.drop ((Lib.index s [47]).toNat + 1))
theorem int_parts {n : Bs} (h : intF n = true) : decF (absB n) = true ∧ Lib.trimPrefix n [45] = absB n ∧ ((∃ t, n = 45 :: t) ∨ ∃ c t, n = c :: t ∧ c ≠ 45 ∧ absB n = n) := by
 cases n with
 | nil => cases h
 | cons c t =>
  by_cases hc : c = 45
  ·subst hc
   rw [intF_minus] at h
   simp only [Bool.and_eq_true] at h
   refine ⟨h.1, ?_, .inl ⟨t, rfl⟩⟩
   simp [Lib.trimPrefix, Lib.hasPrefix, List.isPrefixOf, absB_minus]
  ·have e : intF (c :: t) = decF (c :: t) := by
    unfold intF
    split
    ·rename_i h; injection h with h _; exact absurd h hc
    ·rfl
   have e2 : absB (c :: t) = c :: t := by
    unfold absB
    split
    ·rename_i h; injection h with h _; exact absurd h hc
    ·rfl
   rw [e] at h
   refine ⟨by rw [e2]; exact h, ?_, .inr ⟨c, t, rfl, hc, e2⟩⟩
   rw [e2]
   have : Lib.hasPrefix (c :: t) [45] = false := by
    simp only [Lib.hasPrefix, List.isPrefixOf, Bool.and_eq_false_iff, beq_eq_false_iff_ne, ne_eq]
    exact .inl fun e => hc e.symm
   simp [Lib.trimPrefix, this]
theorem atoi_short {s : Bs} (h : decF s = true) (hl : s.length ≤ 18) : atoiOk s = true ∧ atoiVal s = (numL 0 s : Int) := by
 obtain ⟨ha, hne⟩ := decF_all h
 obtain ⟨h1, h2⟩ := atoi_num s ha hne
 have hn := numL_lt s 0 ha
 have h10 : 10 ^ s.length ≤ 10 ^ 18 := Nat.pow_le_pow_right (by omega) hl
 exact ⟨by rw [h1]; simp; omega, h2 (by omega)⟩
theorem ratio_lim (s : Bs) (hb : s.length ≤ 1048576) : lim.ratio s = some (ratF s) := by
 have hs : s.length ≤ text64 := by unfold text64; omega
 unfold ratF
 rw [ratio_eq]
 unfold ratio_c
 rw [cnd_t (b := decide (s.length < 4294967281)) (by simp; omega)]
 rcases index_spec 47 s with ⟨h1, _⟩ | ⟨i, h1, h2, _, _⟩
 ·have hc : Lib.cut s [47] = (s, [], false) := by unfold Lib.cut; rw [if_neg (by omega)]
  rw [hc]
  dsimp only
  rw [cnd_nf, if_pos h1]
 ·have hc : Lib.cut s [47] = (s.take i, s.drop (i + 1), true) := by unfold Lib.cut; rw [if_pos (by omega), h1]; rfl
  rw [hc, if_neg (by omega), h1]
  dsimp only
  simp only [Int.toNat_natCast]
  unfold ratP
  generalize hn : s.take i = n
  generalize hd : s.drop (i + 1) = d
  have ln : n.length ≤ text64 := by rw [← hn]; exact Nat.le_trans (List.length_take_le' ..) hs
  have ld : d.length ≤ text64 := by rw [← hd]; simp; omega
  rw [cnd_nt, opK_s (integer_lim n ln)]
  cases hi : intF n with
  | false => rw [cnd_nf, if_pos (.inl rfl)]
  | true =>
   obtain ⟨p1, p2, p3⟩ := int_parts hi
   rw [cnd_nt, p2]
   by_cases e0 : n = [48]
   ·rw [cnd_t (by simp [e0]), if_pos (.inr (.inl e0))]
   ·rw [cnd_f (by simp [e0]), opK_s (decimal_lim d ld)]
    cases hdd : decF d with
    | false => rw [cnd_nf, if_pos (.inr (.inr (.inl rfl)))]
    | true =>
     rw [cnd_nt]
     by_cases e1 : d = [48]
     ·rw [cnd_t (by simp [e1]), if_pos (.inr (.inr (.inr (.inl e1))))]
     ·rw [cnd_f (by simp [e1])]
      by_cases e2 : d = [49]
      ·rw [cnd_t (by simp [e2]), if_pos (.inr (.inr (.inr (.inr e2))))]
      ·rw [cnd_f (by simp [e2]), if_neg (by rintro (h | h | h | h | h) <;> first | contradiction | cases h)]
       by_cases l1 : 18 < (absB n).length
       ·rw [cnd_t (by simp; omega), if_pos (.inl l1)]
       ·rw [cnd_f (by simp; omega)]
        by_cases l2 : 18 < d.length
        ·rw [cnd_t (by simp; omega), if_pos (.inr l2)]
        ·obtain ⟨a1, a2⟩ := atoi_short p1 (by omega)
         obtain ⟨b1, b2⟩ := atoi_short hdd (by omega)
         obtain ⟨j, hj⟩ := euclid1 _ (numL 0 (absB n)) (numL 0 d) (Nat.lt_succ_self _)
         rw [cnd_f (by simp; omega), if_neg (by omega), cnd_t (by simp; omega), a1, cnd_t rfl, cnd_t (by simp; omega), b1, cnd_t rfl, a2, b2]
         simp only [ratio_L0_K, chk_eq, opK_some']
         rw [opK_s hj]
         congr 1
         rw [Bool.eq_iff_iff]
         simp
         omega
theorem rratio_lim (s : Bs) (hs : s.length ≤ text64) : lim.rratio s = some (ratF s) := by
 have hs' := hs
 unfold text64 at hs'
 have hbig : s.length < big := by unfold big; omega
 unfold ratF
 rw [rratio_eq]
 unfold rratio_c
 obtain ⟨j0, h0⟩ : ∃ j, lim.rratio_L0 s (-1, 0) = some (if (-1 : Int) < 0 then (if Lib.index s [47] = -1 then -1 else ((0 : Nat) : Int) + Lib.index s [47]) else -1, j) := slash_loop s s 0 (-1) (by simp) (by simp) hbig
 simp only [rratio_L0_K, chk_eq, opK_some']
 rw [opK_s h0, if_pos (by decide)]
 rcases index_spec 47 s with ⟨h1, _⟩ | ⟨i, h1, h2, _, _⟩
 ·rw [if_pos h1, if_pos h1]
  dsimp only
  rw [cnd_t (by simp)]
 ·rw [if_neg (by omega), if_neg (by omega), h1]
  have e0 : ((0 : Nat) : Int) + (i : Int) = (i : Int) := by omega
  rw [e0]
  dsimp only
  have e1 : ((i : Int) + 1).toNat = i + 1 := by omega
  simp only [Int.toNat_natCast, e1, Nat.sub_zero]
  rw [cnd_f (by simp), cnd_t (by simp), cnd_t (by simp; omega), cnd_t (ok64_of (by omega) (by omega)), cnd_t (by simp; omega), cnd_t (by simp; omega)]
  have ed : List.take (s.length - (i + 1)) (List.drop (i + 1) s) = s.drop (i + 1) := List.take_of_length_le (by simp)
  rw [ed]
  unfold ratP
  obtain ⟨n, hn⟩ : ∃ n : Bs, s.take i = n := ⟨_, rfl⟩
  obtain ⟨d, hd⟩ : ∃ d : Bs, s.drop (i + 1) = d := ⟨_, rfl⟩
  simp only [hn, hd]
  have ln : n.length ≤ text64 := by rw [← hn]; exact Nat.le_trans (List.length_take_le' ..) hs
  have ld : d.length ≤ text64 := by rw [← hd]; simp; omega
  rw [opK_s (whole_lim n ln)]
  cases hi : intF n with
  | false => rw [cnd_nf, if_pos (.inl rfl)]
  | true =>
   obtain ⟨p1, p2, p3⟩ := int_parts hi
   rw [cnd_nt]
   by_cases e0 : n = [48]
   ·rw [cnd_t (by simp [e0]), if_pos (.inr (.inl e0))]
   ·rw [cnd_f (by simp [e0]), opK_s (digits_lim d ld)]
    cases hdd : decF d with
    | false => rw [cnd_nf, if_pos (.inr (.inr (.inl rfl)))]
    | true =>
     rw [cnd_nt]
     by_cases e1 : d = [48]
     ·rw [cnd_t (by simp [e1]), if_pos (.inr (.inr (.inr (.inl e1))))]
     ·rw [cnd_f (by simp [e1])]
      by_cases e2 : d = [49]
      ·rw [cnd_t (by simp [e2]), if_pos (.inr (.inr (.inr (.inr e2))))]
      ·rw [cnd_f (by simp [e2]), if_neg (by rintro (h | h | h | h | h) <;> first | contradiction | cases h)]
       have hpa := (decF_all p1).1
       have hda := (decF_all hdd).1
       obtain ⟨j, hj⟩ := euclid2 _ (numL 0 (absB n)) (numL 0 d) (Nat.lt_succ_self _)
       rcases p3 with ⟨t, rfl⟩ | ⟨c, t, rfl, hc, hab⟩
       ·rw [absB_minus] at *
        have et : List.take ((45 :: t : Bs).length - 1) (List.drop 1 (45 :: t : Bs)) = t := by simp
        rw [opK_s idx0, cnd_t (by decide), cnd_t (by simp), et]
        by_cases l1 : 18 < t.length
        ·rw [cnd_t (by simp; omega), if_pos (.inl l1)]
        ·rw [cnd_f (by simp; omega)]
         by_cases l2 : 18 < d.length
         ·rw [cnd_t (by simp; omega), if_pos (.inr l2)]
         ·rw [cnd_f (by simp; omega), if_neg (by omega), opK_s (value_lim t hpa (by omega)), opK_s (value_lim d hda (by omega))]
          simp only [rratio_L1_K, chk_eq, opK_some']
          rw [opK_s hj]
          congr 1
          rw [Bool.eq_iff_iff]
          simp
          omega
       ·rw [hab] at hpa hj ⊢
        have h45 : ((c.toNat : Int) == 45) = decide (c = 45) := bnum c 45
        rw [opK_s idx0, h45, cnd_f (by simp [hc])]
        by_cases l1 : 18 < (c :: t).length
        ·rw [cnd_t (by simp at l1 ⊢; omega), if_pos (.inl l1)]
        ·rw [cnd_f (by simp at l1 ⊢; omega)]
         by_cases l2 : 18 < d.length
         ·rw [cnd_t (by simp; omega), if_pos (.inr l2)]
         ·rw [cnd_f (by simp; omega), if_neg (by omega), opK_s (value_lim (c :: t) hpa (by omega)), opK_s (value_lim d hda (by omega))]
          simp only [rratio_L1_K, chk_eq, opK_some']
          rw [opK_s hj]
          congr 1
          rw [Bool.eq_iff_iff]
          simp
          omega
end Go.Proofs.YtpdgbhjhodhkiaaGreatDoor.AI
namespace Go.Proofs.YtpdgbhjhodhkiaaGreatDoor.AI
open Go Go.Proofs
def dimW (w : Bs) : Bool := decF w && decide (numL 0 w ≤ 2000)
def dgo : Bs → Bs → List Int → Option (List Int)
 | [], cur, acc => if dimW cur = true then some (acc ++ [(numL 0 cur : Int)]) else none
 | b :: r, cur, acc => if b = 32 then (if dimW cur = true then dgo r [] (acc ++ [(numL 0 cur : Int)]) else none) else dgo r (cur ++ [b]) acc
theorem dgo_word : ∀ (w r cur : Bs) (acc : List Int), w.all (fun b => !((32 : UInt8) == b)) = true → dgo (w ++ r) cur acc = dgo r (cur ++ w) acc
 | [], r, cur, acc, _ => by simp
 | b :: w, r, cur, acc, h => by
  simp only [List.all_cons, Bool.and_eq_true, Bool.not_eq_true', beq_eq_false_iff_ne, ne_eq] at h
  simp only [List.cons_append, dgo]
  rw [if_neg (fun e => h.1 e.symm), dgo_word w r (cur ++ [b]) acc h.2]
  simp
theorem dgo_len : ∀ (s cur : Bs) (acc l : List Int), dgo s cur acc = some l → 1 ≤ l.length
 | [], cur, acc, l, h => by
  simp only [dgo] at h
  split at h
  ·injection h with h; subst h; simp
  ·cases h
 | b :: r, cur, acc, l, h => by
  simp only [dgo] at h
  split at h
  ·split at h
   ·exact dgo_len r _ _ l h
   ·cases h
  ·exact dgo_len r _ _ l h
def dimsF (s : Bs) : List Int × Bool :=
 if s = [] then ([], true) else match dgo s [] [] with
  | some l => (l, decide (l.length ≠ 1) && decide (l.length ≤ 7))
  | none => ([], false)
theorem dimW_dec {w : Bs} (h : dimW w = true) : decF w = true ∧ numL 0 w ≤ 2000 ∧ w.length ≤ 4 := by
 unfold dimW at h
 simp only [Bool.and_eq_true, decide_eq_true_eq] at h
 exact ⟨h.1, h.2, decF_len h.1 4 (by omega) (by omega)⟩
theorem atoi_dim {w : Bs} (h : dimW w = true) : atoiOk w = true ∧ atoiVal w = (numL 0 w : Int) := by
 obtain ⟨h1, h2, h3⟩ := dimW_dec h
 exact atoi_short h1 (by omega)
theorem split_loop : ∀ (n : Nat) (rest : Bs) (acc : List Int), rest.length < n → acc.length + rest.length ≤ 1048577 →
  (∃ rest' acc', lim.f221_L0 (rest, acc) = some (.inl (rest', acc')) ∧ dgo rest [] acc = (if dimW rest' = true then some (acc' ++ [(numL 0 rest' : Int)]) else none) ∧ acc'.length + rest'.length ≤ 1048577) ∨
  (∃ o, lim.f221_L0 (rest, acc) = some (.inr o) ∧ dgo rest [] acc = none)
 | 0, rest, acc, h, _ => by omega
 | n + 1, rest, acc, h, hb => by
  rw [f221_L0_eq]
  unfold f221_L0_R
  dsimp only
  rw [cnd_t (b := decide (rest.length < 4294967281)) (by simp; omega)]
  rcases index_spec 32 rest with ⟨h1, h2⟩ | ⟨i, h1, h2, h3, h4⟩
  ·rw [h1, cnd_t (by simp), sumK_inl]
   refine .inl ⟨rest, acc, rfl, ?_, hb⟩
   have := dgo_word rest [] [] acc h2
   rw [List.append_nil] at this
   rw [this]
   simp only [dgo, List.nil_append]
  ·rw [h1]
   have e1 : ((i : Int) + 0).toNat = i := by omega
   have e2 : ((i : Int) + 1).toNat = i + 1 := by omega
   simp only [e1, e2, Nat.sub_zero]
   rw [cnd_f (by simp), cnd_t (ok64_of (by omega) (by omega)), cnd_t (by simp), cnd_t (by simp; omega)]
   have hw : (rest.take i).length ≤ 1048577 := by simp; omega
   have hsm : lim.small (rest.take i) 2000 = some (dimW (rest.take i)) := small_lim (rest.take i) 2000 (by omega) (by unfold text64; omega)
   rw [opK_s hsm]
   have hd : dgo rest [] acc = if dimW (rest.take i) = true then dgo (rest.drop (i + 1)) [] (acc ++ [(numL 0 (rest.take i) : Int)]) else none := by
    conv => lhs; rw [h3]
    rw [dgo_word _ _ _ _ h4, List.nil_append]
    simp only [dgo, if_true]
   cases hdw : dimW (rest.take i) with
   | false =>
    rw [cnd_nf, sumK_inl]
    refine .inr ⟨_, rfl, ?_⟩
    rw [hd, hdw]
    rfl
   | true =>
    obtain ⟨a1, a2⟩ := atoi_dim hdw
    rw [cnd_nt, cnd_t (by simp; omega), a1, cnd_t rfl, cnd_t (by simp; omega), cnd_t (ok64_of (by omega) (by omega)), cnd_t (by simp; omega), cnd_t (by simp; omega), a2, sumK_inr]
    have ed : List.take (rest.length - (i + 1)) (List.drop (i + 1) rest) = rest.drop (i + 1) := List.take_of_length_le (by simp)
    rw [ed, hd, hdw, if_pos rfl]
    exact split_loop n (rest.drop (i + 1)) _ (by simp; omega) (by simp; omega)
theorem dimensions_lim (s : Bs) (hs : s.length ≤ 1048576) : lim.dimensions s = some (dimsF s) := by
 rw [dimensions_eq]
 unfold dimensions_c dimsF
 by_cases h0 : s = []
 ·rw [cnd_t (by simp [h0]), if_pos h0]
 ·rw [cnd_f (by simp [h0]), if_neg h0]
  simp only [f221_L0_K, chk_eq, opK_some']
  rcases split_loop _ s [] (Nat.lt_succ_self _) (by simp; omega) with ⟨rest', acc', k1, k2, k3⟩ | ⟨o, k1, k2⟩
  ·rw [opK_s k1, sumK_inl, k2]
   dsimp only
   have hsm : lim.small rest' 2000 = some (dimW rest') := small_lim rest' 2000 (by omega) (by unfold text64; omega)
   rw [opK_s hsm]
   cases hdw : dimW rest' with
   | false => rw [cnd_nf]; rfl
   | true =>
    obtain ⟨a1, a2⟩ := atoi_dim hdw
    rw [cnd_nt, cnd_t (by simp; omega), a1, cnd_t rfl, cnd_t (by simp; omega), a2]
    simp only [if_true]
    by_cases hl : (acc' ++ [(numL 0 rest' : Int)]).length = 1
    ·rw [cnd_f (by simp only [hl]; rfl)]
     simp [hl]
    ·rw [cnd_t (by simp only [bne_iff_ne, ne_eq]; omega)]
     congr 1
     simp only [Prod.mk.injEq, true_and, hl, ne_eq, not_false_eq_true, decide_true, Bool.true_and]
     apply decide_eq_decide.2
     omega
  ·rw [opK_s k1, sumK_inr, k2]
theorem rdim_loop (s : Bs) (hs : s.length ≤ 1048576) : ∀ (r : Bs) (from' i : Nat) (acc : List Int), s.drop i = r → i + r.length = s.length → from' ≤ i → acc.length ≤ i →
  (∃ a b l, lim.rdimensions_L0 s ((from' : Int), (i : Int), acc) = some (.inr (a, b, l)) ∧ dgo r ((s.drop from').take (i - from')) acc = some l) ∨
  (∃ o, lim.rdimensions_L0 s ((from' : Int), (i : Int), acc) = some (.inl o) ∧ dgo r ((s.drop from').take (i - from')) acc = none)
 | [], from', i, acc, h, hl, hf, ha => by
  simp only [List.length_nil, Nat.add_zero] at hl
  rw [rdimensions_L0_eq]
  unfold rdimensions_L0_R
  dsimp only
  simp only [Int.toNat_natCast]
  rw [cnd_t (by simp; omega), cnd_f (by simp; omega), cnd_t (by simp), cnd_t (by simp), cnd_t (by simp; omega)]
  obtain ⟨w, hw⟩ : ∃ w : Bs, (s.drop from').take (i - from') = w := ⟨_, rfl⟩
  have lw : w.length ≤ 1048576 := by rw [← hw]; simp; omega
  simp only [hw, dgo]
  have hend : ∀ l, ∃ a b, lim.rdimensions_L0 s (((i + 1 : Nat) : Int), ((i + 1 : Nat) : Int), l) = some (.inr (a, b, l)) := by
   intro l
   rw [rdimensions_L0_eq]
   unfold rdimensions_L0_R
   dsimp only
   rw [cnd_f (by simp; omega), sumK_inl]
   exact ⟨_, _, rfl⟩
  by_cases h4 : w.length > 4
  ·rw [cnd_t (by simp; omega), sumK_inl]
   refine .inr ⟨_, rfl, ?_⟩
   rw [if_neg]
   intro hd
   have := (dimW_dec hd).2.2
   omega
  ·rw [cnd_f (by simp; omega), opK_s (digits_lim w (by unfold text64; omega))]
   cases hdec : decF w with
   | false =>
    rw [cnd_nf, sumK_inl]
    exact .inr ⟨_, rfl, by unfold dimW; rw [hdec]; rfl⟩
   | true =>
    have hda := (decF_all hdec).1
    rw [cnd_nt, opK_s (value_lim w hda (by omega)), opK_s (value_lim w hda (by omega))]
    by_cases hn : numL 0 w ≤ 2000
    ·rw [cnd_f (by simp; omega), cnd_t (by simp; omega), cnd_t (ok64_of (by omega) (by omega)), cnd_t (ok64_of (by omega) (by omega)), sumK_inr, i1]
     obtain ⟨a, b, hab⟩ := hend (acc ++ [(numL 0 w : Int)])
     refine .inl ⟨a, b, _, hab, ?_⟩
     rw [if_pos (by unfold dimW; rw [hdec]; simp [hn])]
    ·rw [cnd_t (by simp; omega), sumK_inl]
     refine .inr ⟨_, rfl, ?_⟩
     rw [if_neg]
     unfold dimW
     rw [hdec]
     simp [hn]
 | c :: r, from', i, acc, h, hl, hf, ha => by
  obtain ⟨h1, h2, h3⟩ := idx_drop h
  simp only [List.length_cons] at hl
  rw [rdimensions_L0_eq]
  unfold rdimensions_L0_R
  dsimp only
  simp only [Int.toNat_natCast]
  have h32 : ((c.toNat : Int) == 32) = decide (c = 32) := bnum c 32
  rw [cnd_t (by simp; omega), cnd_t (by simp; omega), opK_s h1]
  simp only [bne, h32]
  by_cases hc : c = 32
  ·rw [cnd_f (by simp [hc]), cnd_t (by simp), cnd_t (by simp), cnd_t (by simp; omega)]
   obtain ⟨w, hw⟩ : ∃ w : Bs, (s.drop from').take (i - from') = w := ⟨_, rfl⟩
   have lw : w.length ≤ 1048576 := by rw [← hw]; simp; omega
   simp only [hw, dgo, hc, if_true]
   by_cases h4 : w.length > 4
   ·rw [cnd_t (by simp; omega), sumK_inl]
    refine .inr ⟨_, rfl, ?_⟩
    rw [if_neg]
    intro hd
    have := (dimW_dec hd).2.2
    omega
   ·rw [cnd_f (by simp; omega), opK_s (digits_lim w (by unfold text64; omega))]
    cases hdec : decF w with
    | false =>
     rw [cnd_nf, sumK_inl]
     exact .inr ⟨_, rfl, by unfold dimW; rw [hdec]; rfl⟩
    | true =>
     have hda := (decF_all hdec).1
     rw [cnd_nt, opK_s (value_lim w hda (by omega)), opK_s (value_lim w hda (by omega))]
     by_cases hn : numL 0 w ≤ 2000
     ·rw [cnd_f (by simp; omega), cnd_t (by simp; omega), cnd_t (ok64_of (by omega) (by omega)), cnd_t (ok64_of (by omega) (by omega)), sumK_inr, i1]
      have hdw : dimW w = true := by unfold dimW; rw [hdec]; simp [hn]
      rw [if_pos hdw]
      have ih := rdim_loop s hs r (i + 1) (i + 1) (acc ++ [(numL 0 w : Int)]) h2 (by omega) (Nat.le_refl _) (by simp; omega)
      simp only [Nat.sub_self, List.take_zero] at ih
      exact ih
     ·rw [cnd_t (by simp; omega), sumK_inl]
      refine .inr ⟨_, rfl, ?_⟩
      rw [if_neg]
      unfold dimW
      rw [hdec]
      simp [hn]
  ·rw [cnd_t (by simp [hc]), cnd_t (ok64_of (by omega) (by omega)), sumK_inr, i1]
   simp only [dgo, hc, if_false]
   have ih := rdim_loop s hs r from' (i + 1) acc h2 (by omega) (by omega) (by omega)
   have e : (s.drop from').take (i + 1 - from') = (s.drop from').take (i - from') ++ [c] := by
    have e1 : i + 1 - from' = (i - from') + 1 := by omega
    rw [e1, List.take_add_one]
    congr 1
    rw [List.getElem?_drop]
    have : from' + (i - from') = i := by omega
    rw [this]
    have h5 : s[i]? = some c := by
     have : (s.drop i)[0]? = some c := by rw [h]; rfl
     simpa using this
    rw [h5]
    rfl
   rw [e] at ih
   exact ih
theorem rdimensions_lim (s : Bs) (hs : s.length ≤ 1048576) : lim.rdimensions s = some (dimsF s) := by
 rw [rdimensions_eq]
 unfold rdimensions_c dimsF
 by_cases h0 : s = []
 ·rw [cnd_t (by simp [h0]), if_pos h0]
 ·rw [cnd_f (by simp [h0]), if_neg h0]
  simp only [rdimensions_L0_K, chk_eq, opK_some']
  have := rdim_loop s hs s 0 0 [] (by simp) (by simp) (Nat.le_refl _) (by simp)
  simp only [Nat.sub_self, List.take_zero] at this
  rcases this with ⟨a, b, l, k1, k2⟩ | ⟨o, k1, k2⟩
  ·have k1 : lim.rdimensions_L0 s (0, 0, []) = some (.inr (a, b, l)) := k1
   have hlen := dgo_len _ _ _ _ k2
   rw [opK_s k1, sumK_inr, k2]
   dsimp only
   by_cases hl : l.length = 1
   ·rw [cnd_f (by simp; omega)]
    simp [hl]
   ·rw [cnd_t (by simp; omega)]
    congr 1
    simp only [Prod.mk.injEq, true_and, hl, ne_eq, not_false_eq_true, decide_true, Bool.true_and]
    apply decide_eq_decide.2
    omega
  ·have k1 : lim.rdimensions_L0 s (0, 0, []) = some (.inl o) := k1
   rw [opK_s k1, sumK_inl, k2]
theorem dgo_small : ∀ (s cur : Bs) (acc l : List Int), dgo s cur acc = some l → (∀ d ∈ acc, 0 ≤ d ∧ d ≤ 2000) → ∀ d ∈ l, 0 ≤ d ∧ d ≤ 2000
 | [], cur, acc, l, h, ha => by
  simp only [dgo] at h
  split at h
  ·rename_i hd
   injection h with h
   subst h
   have := (dimW_dec hd).2.1
   intro d hm
   rcases List.mem_append.1 hm with hm | hm
   ·exact ha d hm
   ·simp at hm; subst hm; omega
  ·cases h
 | b :: r, cur, acc, l, h, ha => by
  simp only [dgo] at h
  split at h
  ·split at h
   ·rename_i hd
    have := (dimW_dec hd).2.1
    refine dgo_small r _ _ l h fun d hm => ?_
    rcases List.mem_append.1 hm with hm | hm
    ·exact ha d hm
    ·simp at hm; subst hm; omega
   ·cases h
  ·exact dgo_small r _ _ l h ha
theorem dims_small (s : Bs) : ∀ d ∈ (dimsF s).1, 0 ≤ d ∧ d ≤ 2000 := by
 unfold dimsF
 split
 ·intro d hd; cases hd
 ·split
  ·rename_i l h; exact dgo_small _ _ _ _ h (fun d hd => by cases hd)
  ·intro d hd; cases hd
theorem dims_len (s : Bs) (h : (dimsF s).2 = true) : (dimsF s).1.length ≤ 7 := by
 unfold dimsF at h ⊢
 split
 ·simp
 ·rename_i h0
  rw [if_neg h0] at h
  split
  ·rename_i l hl
   rw [hl] at h
   simp at h
   exact h.2
  ·simp
end Go.Proofs.YtpdgbhjhodhkiaaGreatDoor.AI
namespace Go.Proofs.YtpdgbhjhodhkiaaGreatDoor.AI
open Go Go.Proofs
theorem indexInt_lim (l : List Int) (x : Int) (hl : l.length < big) : ∃ y, lim.IndexInt l x = some y ∧ (decide (y ≥ 0) = decide (x ∈ l)) := by
 unfold big at hl
 rw [IndexInt_eq]
 unfold IndexInt_c
 simp only [IndexInt_L0_K, chk_eq, opK_some']
 have key : ∀ (r : List Int) (i : Nat), l.drop i = r → i + r.length = l.length →
   (∃ j : Nat, lim.IndexInt_L0 l x l.length (i : Int) = some (.inl ((j : Int), (j : Int))) ∧ x ∈ r) ∨ (∃ j, lim.IndexInt_L0 l x l.length (i : Int) = some (.inr j) ∧ x ∉ r) := by
  intro r
  induction r with
  | nil =>
   intro i h he
   simp only [List.length_nil, Nat.add_zero] at he
   refine .inr ?_
   rw [IndexInt_L0_eq]
   unfold IndexInt_L0_R
   dsimp only
   rw [cnd_f (by simp; omega)]
   exact ⟨_, rfl, by simp⟩
  | cons y r ih =>
   intro i h he
   obtain ⟨h1, h2, h3⟩ := idx_drop h
   simp only [List.length_cons] at he
   rw [IndexInt_L0_eq]
   unfold IndexInt_L0_R
   dsimp only
   rw [cnd_t (by simp; omega), opK_s h1]
   by_cases hxy : x = y
   ·rw [cnd_t (by simp [hxy])]
    exact .inl ⟨i, rfl, by simp [hxy]⟩
   ·rw [cnd_f (by simp [hxy]), cnd_t (ok64_of (by omega) (by omega)), sumK_inr, i1]
    rcases ih (i + 1) h2 (by omega) with ⟨j, g1, g2⟩ | ⟨j, g1, g2⟩
    ·exact .inl ⟨j, g1, by simp [g2]⟩
    ·exact .inr ⟨j, g1, by simp [g2, hxy]⟩
 rcases key l 0 (by simp) (by simp) with ⟨j, g1, g2⟩ | ⟨j, g1, g2⟩
 ·have g1 : lim.IndexInt_L0 l x l.length 0 = some (.inl ((j : Int), (j : Int))) := g1
  rw [opK_s g1]
  exact ⟨_, rfl, by rw [decide_eq_true g2]; simp⟩
 ·have g1 : lim.IndexInt_L0 l x l.length 0 = some (.inr j) := g1
  rw [opK_s g1]
  exact ⟨_, rfl, by rw [decide_eq_false g2]; rfl⟩
def prd : Int → List Int → Int
 | a, [] => a
 | a, x :: l => prd (a * x) l
theorem min_mul {a x C : Int} (ha : 1 ≤ a) (hx : 1 ≤ x) (hC : 1 ≤ C) : min (min a C * x) C = min (a * x) C := by
 rcases Int.le_total a C with h | h
 ·rw [Int.min_eq_left h]
 ·rw [Int.min_eq_right h]
  have h1 : C * 1 ≤ C * x := Int.mul_le_mul_of_nonneg_left hx (by omega)
  have h2 : a * 1 ≤ a * x := Int.mul_le_mul_of_nonneg_left hx (by omega)
  rw [Int.min_eq_right (by omega), Int.min_eq_right (by omega)]
theorem one_mul_le {a x : Int} (ha : 1 ≤ a) (hx : 1 ≤ x) : 1 ≤ a * x := by
 have h2 : a * 1 ≤ a * x := Int.mul_le_mul_of_nonneg_left hx (by omega)
 omega
theorem ok_mul {a x C : Int} (h0 : 0 ≤ a) (ha : a ≤ C) (h1 : 0 ≤ x) (hx : x ≤ 2000) (hC : C ≤ 1099511627776) : ok64 (a * x) = true := by
 have h2 : a * x ≤ a * 2000 := Int.mul_le_mul_of_nonneg_left hx h0
 have h3 : 0 ≤ a * x := Int.mul_nonneg h0 h1
 exact ok64_of (by omega) (by omega)
theorem product_loop (l : List Int) (hs : ∀ d ∈ l, 1 ≤ d ∧ d ≤ 2000) (hl : l.length < big) : ∀ (r : List Int) (i : Nat) (a : Int), l.drop i = r → i + r.length = l.length → 1 ≤ a →
  ∃ j, lim.product_L0 l l.length (min a 1099511627776, (i : Int)) = some (min (prd a r) 1099511627776, j)
 | [], i, a, h, he, ha => by
  simp only [List.length_nil, Nat.add_zero] at he
  rw [product_L0_eq]
  unfold product_L0_R
  dsimp only
  rw [cnd_f (by simp; omega)]
  exact ⟨_, rfl⟩
 | x :: r, i, a, h, he, ha => by
  obtain ⟨h1, h2, h3⟩ := idx_drop h
  have hx := hs x (mem_drop h)
  simp only [List.length_cons] at he
  have hl' := hl
  unfold big at hl'
  rw [product_L0_eq]
  unfold product_L0_R
  dsimp only
  rw [cnd_t (by simp; omega), opK_s h1, cnd_t (ok_mul (C := 1099511627776) (by omega) (by omega) (by omega) hx.2 (by omega)), cnd_t (ok64_of (by omega) (by omega)), sumK_inr, i1, min_mul ha hx.1 (by omega)]
  exact product_loop l hs hl r (i + 1) (a * x) h2 (by omega) (one_mul_le ha hx.1)
theorem rproduct_loop (l : List Int) (hs : ∀ d ∈ l, 1 ≤ d ∧ d ≤ 2000) (hl : l.length < big) : ∀ (r : List Int) (i : Nat) (a : Int), l.drop i = r → i + r.length = l.length → 1 ≤ a →
  ∃ j, lim.rproduct_L1 l (min a 2001, (i : Int)) = some (min (prd a r) 2001, j)
 | [], i, a, h, he, ha => by
  simp only [List.length_nil, Nat.add_zero] at he
  rw [rproduct_L1_eq]
  unfold rproduct_L1_R
  dsimp only
  rw [cnd_f (by simp; omega)]
  exact ⟨_, rfl⟩
 | x :: r, i, a, h, he, ha => by
  obtain ⟨h1, h2, h3⟩ := idx_drop h
  have hx := hs x (mem_drop h)
  simp only [List.length_cons] at he
  have hl' := hl
  unfold big at hl'
  rw [rproduct_L1_eq]
  unfold rproduct_L1_R
  dsimp only
  rw [cnd_t (by simp; omega), opK_s h1, cnd_t (ok_mul (C := 2001) (by omega) (by omega) (by omega) hx.2 (by omega)), cnd_t (ok64_of (by omega) (by omega)), sumK_inr, i1, min_mul ha hx.1 (by omega)]
  exact rproduct_loop l hs hl r (i + 1) (a * x) h2 (by omega) (one_mul_le ha hx.1)
theorem products (l : List Int) (hs : ∀ d ∈ l, 0 ≤ d ∧ d ≤ 2000) (hl : l.length < big) : ∃ p q, lim.product l = some p ∧ lim.rproduct l = some q ∧ ∀ n : Nat, n ≤ 1999 → (p = (n : Int) ↔ q = (n : Int)) := by
 have hl' := hl
 unfold big at hl'
 obtain ⟨y, y1, y2⟩ := indexInt_lim l 0 hl
 have hz : (l.all (fun d => !(d == 0)) = true ∧ ∃ o, lim.rproduct_L0 l 0 = some (.inr o)) ∨ (l.all (fun d => !(d == 0)) = false ∧ ∃ o, lim.rproduct_L0 l 0 = some (.inl o)) := by
  refine all_loop (rproduct_L0_eq l) (fun d => !(d == 0)) (fun i d g1 g2 g3 K => ?_) (fun K => ?_)
  ·unfold rproduct_L0_R
   rw [cnd_t (by simp; omega), opK_s g2]
   by_cases hd : d = 0
   ·rw [cnd_t (by simp [hd])]
    exact ⟨fun h => by simp [hd] at h, fun _ => ⟨_, rfl⟩⟩
   ·rw [cnd_f (by simp [hd]), cnd_t (ok64_of (by omega) (by omega)), i1]
    exact ⟨fun _ => rfl, fun h => by simp [hd] at h⟩
  ·unfold rproduct_L0_R
   rw [cnd_f (by simp)]
   exact ⟨_, rfl⟩
 rw [product_eq, rproduct_eq]
 unfold product_c rproduct_c
 simp only [product_L0_K, rproduct_L0_K, rproduct_L1_K, chk_eq, opK_some']
 rw [opK_s y1]
 rcases hz with ⟨z1, o, z2⟩ | ⟨z1, o, z2⟩
 ·have h0 : (0 : Int) ∉ l := by
   intro hm
   have := List.all_eq_true.1 z1 0 hm
   simp at this
  rw [decide_eq_false h0] at y2
  rw [cnd_f y2, opK_s z2, sumK_inr]
  have hs1 : ∀ d ∈ l, 1 ≤ d ∧ d ≤ 2000 := fun d hd => by
   have := hs d hd
   have h1 : d ≠ 0 := fun e => h0 (e ▸ hd)
   omega
  obtain ⟨j, hj⟩ := product_loop l hs1 hl l 0 1 (by simp) (by simp) (by omega)
  obtain ⟨k, hk⟩ := rproduct_loop l hs1 hl l 0 1 (by simp) (by simp) (by omega)
  have hj : lim.product_L0 l l.length (1, 0) = _ := hj
  have hk : lim.rproduct_L1 l (1, 0) = _ := hk
  rw [opK_s hj, opK_s hk]
  exact ⟨_, _, rfl, rfl, fun n hn => by dsimp only; omega⟩
 ·have h0 : (0 : Int) ∈ l := by
   apply Classical.byContradiction
   intro hm
   have : l.all (fun d => !(d == 0)) = true := List.all_eq_true.2 fun d hd => by
    have h1 : d ≠ 0 := fun e => hm (e ▸ hd)
    simp [h1]
   rw [this] at z1
   cases z1
  rw [decide_eq_true h0] at y2
  rw [cnd_t y2, opK_s z2, sumK_inl]
  exact ⟨_, _, rfl, rfl, fun n hn => Iff.rfl⟩
def exF (f : Form) : Bool := f.kind == 2 || f.kind == 3
def pairF (a b : Form) : Bool := a.kind == b.kind && (a.kind == 4 || a.kind == 5)
def partF (a b : Form) : Bool := if exF a && exF b then (if b.kind == 2 then !(b.text == [48]) else true) else pairF a b
def rpartF (a b : Form) : Bool := if exF a && exF b then !(b.text == [48]) else pairF a b
theorem exact_lim (f : Form) : lim.exact f = some (exF f) := by
 rw [exact_eq]
 unfold exact_c exF
 cases h : (f.kind == 2) <;> rfl
theorem rexact_lim (f : Form) : lim.rexact f = some (exF f) := by
 rw [rexact_eq]
 unfold rexact_c exF
 cases h : (f.kind == 2) <;> rfl
theorem pair_c (a b : Form) : (cnd (a.kind == b.kind) (cnd (a.kind == 4) (some true) (some (a.kind == 5))) (some false)) = some (pairF a b) := by
 unfold pairF
 cases h : (a.kind == b.kind) <;> cases h4 : (a.kind == 4) <;> rfl
theorem complex_lim (x y : Form) : lim.complex [x, y] = some (partF x y) := by
 rw [complex_eq]
 unfold complex_c
 rw [cnd_f (by rfl), idx0, opK_some', idx1, opK_some']
 simp only [Form.eta]
 rw [opK_s (exact_lim x)]
 unfold partF
 cases hx : exF x with
 | false => rw [cnd_ff, pair_c]; rfl
 | true =>
  rw [cnd_tt, opK_s (exact_lim y)]
  cases hy : exF y with
  | false => rw [cnd_ff, pair_c]; rfl
  | true =>
   rw [cnd_tt]
   cases h2 : (y.kind == 2) <;> rfl
theorem complex_no (l : List Form) (h : l.length ≠ 2) : lim.complex l = some false := by
 rw [complex_eq]
 unfold complex_c
 rw [cnd_t (by simp; omega)]
theorem parts_lim (x y : Form) : lim.parts x y = some (rpartF x y) := by
 rw [parts_eq]
 unfold parts_c
 simp only [Form.eta]
 rw [opK_s (rexact_lim x)]
 unfold rpartF
 cases hx : exF x with
 | false => rw [cnd_ff, pair_c]; rfl
 | true =>
  rw [cnd_tt, opK_s (rexact_lim y)]
  cases hy : exF y with
  | false => rw [cnd_ff, pair_c]; rfl
  | true => rfl
theorem ratF_zero : ratF [48] = false := by decide
theorem trim_bits (s : Bs) : (Lib.trimS s [48, 49] == ([] : List UInt8)) = s.all (fun x => x == 48 || x == 49) := by
 rw [trimS_nil]
 congr 1
 funext x
 simp only [List.contains_cons, List.contains_nil, Bool.or_false]
theorem bits_loop (k : Int) (s h : Bs) (ks : List Form) (hs : s.length ≤ text64) : (s.all (fun x => x == 48 || x == 49) = true ∧ ∃ o, lim.atom_L0 k s h ks 0 = some (.inr o)) ∨ (s.all (fun x => x == 48 || x == 49) = false ∧ ∃ o, lim.atom_L0 k s h ks 0 = some (.inl o)) := by
 unfold text64 at hs
 refine all_loop (atom_L0_eq k s h ks) (fun x => x == 48 || x == 49) (fun i x g1 g2 g3 K => ?_) (fun K => ?_)
 ·unfold atom_L0_R
  rw [cnd_t (by simp; omega), opK_s g2]
  by_cases h0 : x = 48
  ·rw [cnd_f (by simp [h0]), cnd_t (ok64_of (by omega) (by omega)), i1]
   exact ⟨fun _ => rfl, fun h => by simp [h0] at h⟩
  ·have e0 : x.toNat ≠ 48 := fun e => h0 (UInt8.toNat_inj.1 e)
   rw [cnd_t (by simp; omega), opK_s g2]
   by_cases h1 : x = 49
   ·rw [cnd_f (by simp [h1]), cnd_t (ok64_of (by omega) (by omega)), i1]
    exact ⟨fun _ => rfl, fun h => by simp [h1] at h⟩
   ·have e1 : x.toNat ≠ 49 := fun e => h1 (UInt8.toNat_inj.1 e)
    rw [cnd_t (by simp; omega)]
    exact ⟨fun h => by simp [h0, h1] at h, fun _ => ⟨_, rfl⟩⟩
 ·unfold atom_L0_R
  rw [cnd_f (by simp)]
  exact ⟨_, rfl⟩
end Go.Proofs.YtpdgbhjhodhkiaaGreatDoor.AI
namespace Go.Proofs.YtpdgbhjhodhkiaaGreatDoor.AI
open Go Go.Proofs
theorem valid_loop (t h : Bs) (k : Int) (ks : List Form) (ht : t.length ≤ text64) (hh : h.length ≤ text64) :
  ([t, h].all Lib.validD = true ∧ ∃ o, lim.right_L0 t h k ks 0 = some (.inr o)) ∨ ([t, h].all Lib.validD = false ∧ ∃ o, lim.right_L0 t h k ks 0 = some (.inl o)) := by
 unfold text64 at ht hh
 refine all_loop (right_L0_eq t h k ks) Lib.validD (fun i x g1 g2 g3 K => ?_) (fun K => ?_)
 ·have hx : x.length ≤ 9223372036854775807 := by
   have := List.mem_of_getElem? g1
   simp at this
   rcases this with rfl | rfl
   ·omega
   ·omega
  simp at g3
  unfold right_L0_R
  rw [cnd_t (by simp; omega), opK_s g2, cnd_t (by simp; omega)]
  cases hv : Lib.validD x with
  | false => rw [cnd_nf]; exact ⟨fun h => by simp at h, fun _ => ⟨_, rfl⟩⟩
  | true =>
   rw [cnd_nt, cnd_t (ok64_of (by omega) (by omega)), i1]
   exact ⟨fun _ => rfl, fun h => by simp at h⟩
 ·unfold right_L0_R
  rw [cnd_f (by simp)]
  exact ⟨_, rfl⟩
theorem atom_pos (f : Form) (hk : 0 < f.kids.length) : lim.atom f = some false := by
 rw [atom_eq]
 unfold atom_c
 rw [cnd_t (by simp; omega)]
theorem atom_home (f : Form) (hh : f.home ≠ []) : lim.atom f = some false := by
 by_cases hk : 0 < f.kids.length
 ·exact atom_pos f hk
 ·rw [atom_eq]
  unfold atom_c
  rw [cnd_f (decide_eq_false (by omega)), cnd_t (by simp [hh])]
theorem valid_parts {t h : Bs} (hv : [t, h].all Lib.validD = true) : Lib.validD t = true ∧ Lib.validD h = true := by simpa using hv
theorem node_invalid (f : Form) (ht : f.text.length ≤ text64) (hh : f.home.length ≤ text64) (hv : [f.text, f.home].all Lib.validD = false) : lim.node f = some false := by
 unfold text64 at ht hh
 rw [node_eq]
 unfold node_c
 rw [cnd_t (by simp; omega)]
 cases h1 : Lib.validD f.text with
 | false => rw [cnd_nf]
 | true =>
  rw [cnd_nt, cnd_t (by simp; omega)]
  have h2 : Lib.validD f.home = false := by simpa [h1] using hv
  rw [h2, cnd_nf]
theorem right_invalid (f : Form) (ht : f.text.length ≤ text64) (hh : f.home.length ≤ text64) (hv : [f.text, f.home].all Lib.validD = false) : lim.right f = some false := by
 rw [right_eq]
 unfold right_c
 simp only [right_L0_K, chk_eq, opK_some']
 rcases valid_loop f.text f.home f.kind f.kids ht hh with ⟨v1, o, v2⟩ | ⟨v1, o, v2⟩
 ·rw [v1] at hv; cases hv
 ·rw [opK_s v2, sumK_inl]
theorem node_home (f : Form) (ht : f.text.length ≤ 1048576) (hh : f.home.length ≤ text64) (hv : [f.text, f.home].all Lib.validD = true) (h0 : f.home ≠ []) (h1 : f.kind ≠ 1) : lim.node f = some false := by
 unfold text64 at hh
 obtain ⟨v1, v2⟩ := valid_parts hv
 have e : (f.home == ([] : List UInt8)) = false := by simp [h0]
 rw [node_eq]
 unfold node_c
 rw [cnd_t (by simp; omega), v1, cnd_nt, cnd_t (by simp; omega), v2, cnd_nt, cnd_f (by simp [h1])]
 simp only [Form.eta, e, cnd_ff, atom_home f h0, opK_some', rdimensions_lim f.text ht]
 cases f.kind == 6 <;> cases f.kind == 10 <;> cases f.kind == 11 <;> cases f.kind == 12 <;> cases f.kind == 13 <;> cases f.text == ([] : List UInt8) <;> cases (dimsF f.text).2 <;> rfl
theorem right_ratio (f : Form) (hh : f.home.length ≤ text64) (hk : f.kind = 3) (hr : lim.right f = some true) : f.text ≠ [48] := by
 intro e
 have ht : f.text.length ≤ text64 := by rw [e]; unfold text64; simp
 rcases valid_loop f.text f.home f.kind f.kids ht hh with ⟨v1, o, v2⟩ | ⟨v1, o, v2⟩
 case inr => rw [right_invalid f ht hh v1] at hr; cases hr
 rw [right_eq] at hr
 unfold right_c at hr
 simp only [right_L0_K, chk_eq, opK_some'] at hr
 rw [opK_s v2, sumK_inr] at hr
 have hz : lim.ratio f.text = some false := by rw [e, ratio_lim [48] (by simp), ratF_zero]
 simp only [hk, Int.reduceBEq, Int.reduceBNe, cnd_tt, cnd_ff, hz, opK_some'] at hr
 revert hr
 cases f.home == ([] : List UInt8) <;> cases (f.kids.length : Int) == 0 <;> simp [cnd]
theorem node_agree (f : Form) (ht : f.text.length ≤ 1048576) (hh : f.home.length ≤ text64) (hk : f.kids.length ≤ 1999) (htk : ∀ x ∈ f.kids, x.home.length ≤ text64) : ∃ b c, lim.right f = some b ∧ lim.node f = some c ∧ ((∀ x ∈ f.kids, lim.right x = some true) → b = c) ∧ (b = true → f.kind = 13 → f.kids.length = 1) := by
 have ht' : f.text.length ≤ text64 := by unfold text64; omega
 have hh' := hh
 unfold text64 at hh'
 rcases valid_loop f.text f.home f.kind f.kids ht' hh with ⟨v1, o, v2⟩ | ⟨v1, o, v2⟩
 case inr => exact ⟨_, _, right_invalid f ht' hh v1, node_invalid f ht' hh v1, fun _ => rfl, fun h => by cases h⟩
 obtain ⟨w1, w2⟩ := valid_parts v1
 by_cases hk1 : f.kind = 1
 ·refine ⟨(f.kids.length : Int) == 0, (f.kids.length : Int) == 0, ?_, ?_, fun _ => rfl, fun _ h => by omega⟩
  ·rw [right_eq]
   unfold right_c
   simp only [right_L0_K, chk_eq, opK_some']
   rw [opK_s v2, sumK_inr]
   simp only [hk1, Int.reduceBEq, bne_self_eq_false, cnd_tt, cnd_ff]
   cases f.home == ([] : List UInt8) <;> rfl
  ·rw [node_eq]
   unfold node_c
   rw [cnd_t (by simp; omega), w1, cnd_nt, cnd_t (by simp; omega), w2, cnd_nt, cnd_t (by simp [hk1])]
 by_cases h0 : f.home = []
 case neg =>
  refine ⟨false, false, ?_, node_home f ht hh v1 h0 hk1, fun _ => rfl, fun h => by cases h⟩
  rw [right_eq]
  unfold right_c
  simp only [right_L0_K, chk_eq, opK_some']
  rw [opK_s v2, sumK_inr, cnd_t (by simp [h0]), cnd_t (by simp [hk1])]
 have e0 : (f.home == ([] : List UInt8)) = true := by simp [h0]
 have e1 : (f.kind == 1) = false := by simp [hk1]
 have et : decide (f.text.length < 9223372036854775807) = true := by simp; omega
 have et' : decide (f.text.length ≤ 9223372036854775807) = true := by simp; omega
 rw [right_eq, node_eq]
 unfold right_c node_c
 simp only [right_L0_K, chk_eq, opK_some']
 rw [opK_s v2, sumK_inr, cnd_t (b := decide (f.text.length ≤ _)) et', w1, cnd_nt, cnd_t (b := decide (f.home.length ≤ _)) (by simp; omega), w2, cnd_nt]
 simp only [e0, e1, cnd_ff, cnd_tt, cnd_nt, Form.eta]
 have hatom : ∀ b : Option Bool, (0 < f.kids.length → b = some false) → (f.kids.length = 0 → ∃ c, b = some c ∧ lim.atom f = some c) → ∃ c, b = some c ∧ lim.atom f = some c := by
  intro b g1 g2
  by_cases hz : f.kids.length = 0
  ·exact g2 hz
  ·exact ⟨false, g1 (by omega), atom_pos f (by omega)⟩
 have fin : ∀ b : Option Bool, f.kind ≠ 13 → (∃ c, b = some c ∧ lim.atom f = some c) → ∃ b' c, b = some b' ∧ (opK (lim.atom f) fun y => some y) = some c ∧ ((∀ x ∈ f.kids, lim.right x = some true) → b' = c) ∧ (b' = true → f.kind = 13 → f.kids.length = 1) := by
  intro b h13 ⟨c, g1, g2⟩
  exact ⟨c, c, g1, by rw [g2]; rfl, fun _ => rfl, fun _ h => absurd h h13⟩
 have hp : ∀ {z : Option Bool}, 0 < f.kids.length → cnd ((f.kids.length : Int) == 0) z (some false) = some false := fun h => cnd_f (by simp; intro e; simp [e] at h)
 have hn : ∀ {z : Option Bool}, f.kids.length = 0 → cnd ((f.kids.length : Int) == 0) z (some false) = z := fun h => cnd_t (by simp [h])
 have hA : f.kids.length = 0 → lim.atom f = cnd (f.kind == 2) (opK (lim.whole f.text) some) (cnd (f.kind == 3) (opK (lim.rratio f.text) some) (cnd (f.kind == 4) (opK (lim.hex f.text 8) some) (cnd (f.kind == 5) (opK (lim.hex f.text 16) some) (cnd (f.kind == 7) (some (runesN f.text == 1)) (cnd (f.kind == 9) (some (f.text.all (fun x => x == 48 || x == 49))) (cnd (f.kind == 14) (opK (lim.label f.text) some) (some (f.kind == 8)))))))) := by
  intro hz
  rw [atom_eq]
  unfold atom_c
  simp only [atom_L0_K, chk_eq, opK_some']
  rw [cnd_f (decide_eq_false (by omega)), cnd_f (b := !(f.home == _)) (by simp [h0]), cnd_t et]
  congr 6
  rcases bits_loop f.kind f.text f.home f.kids ht' with ⟨q1, o, q2⟩ | ⟨q1, o, q2⟩
  ·rw [opK_s q2, sumK_inr, q1]
  ·rw [opK_s q2, sumK_inl, q1]
 have hsm : lim.small f.text 999 = some (decF f.text && decide (numL 0 f.text ≤ 999)) := small_lim f.text 999 (by omega) ht'
 by_cases k2 : f.kind = 2
 ·simp only [k2, Int.reduceBEq, cnd_tt, cnd_ff] at fin hA ⊢
  exact fin _ (by omega) (hatom _ hp fun hz => ⟨_, by rw [hn hz, opK_s (integer_lim _ ht')], by rw [hA hz, opK_s (whole_lim _ ht')]⟩)
 by_cases k3 : f.kind = 3
 ·simp only [k3, Int.reduceBEq, cnd_tt, cnd_ff] at fin hA ⊢
  exact fin _ (by omega) (hatom _ hp fun hz => ⟨_, by rw [hn hz, opK_s (ratio_lim _ ht)], by rw [hA hz, opK_s (rratio_lim _ ht')]⟩)
 by_cases k4 : f.kind = 4
 ·simp only [k4, Int.reduceBEq, cnd_tt, cnd_ff] at fin hA ⊢
  exact fin _ (by omega) (hatom _ hp fun hz => ⟨_, by rw [hn hz, opK_s (hexadecimal_lim _ _ ht')], by rw [hA hz, opK_s (hex_lim _ _ ht')]⟩)
 by_cases k5 : f.kind = 5
 ·simp only [k5, Int.reduceBEq, cnd_tt, cnd_ff] at fin hA ⊢
  exact fin _ (by omega) (hatom _ hp fun hz => ⟨_, by rw [hn hz, opK_s (hexadecimal_lim _ _ ht')], by rw [hA hz, opK_s (hex_lim _ _ ht')]⟩)
 by_cases k7 : f.kind = 7
 ·simp only [k7, Int.reduceBEq, cnd_tt, cnd_ff, et] at fin hA ⊢
  exact fin _ (by omega) (hatom _ hp fun hz => ⟨_, by rw [hn hz], by rw [hA hz]⟩)
 by_cases k9 : f.kind = 9
 ·simp only [k9, Int.reduceBEq, cnd_tt, cnd_ff, et', Bool.true_and] at fin hA ⊢
  exact fin _ (by omega) (hatom _ hp fun hz => ⟨_, by rw [hn hz], by rw [hA hz, trim_bits]⟩)
 by_cases k8 : f.kind = 8
 ·simp only [k8, Int.reduceBEq, cnd_tt, cnd_ff] at fin hA ⊢
  exact fin _ (by omega) (hatom _ (fun h => by congr 1; simp; intro e; simp [e] at h) fun hz => ⟨_, rfl, by rw [hA hz]; simp [hz]⟩)
 by_cases k14 : f.kind = 14
 ·simp only [k14, Int.reduceBEq, cnd_tt, cnd_ff] at fin hA ⊢
  exact fin _ (by omega) (hatom _ hp fun hz => ⟨_, by rw [hn hz, opK_s hsm], by rw [hA hz, opK_s (label_lim _ ht')]⟩)
 by_cases k6 : f.kind = 6
 ·simp only [k6, Int.reduceBEq, cnd_tt, cnd_ff]
  cases htx : (f.text == ([] : List UInt8)) with
  | false => exact ⟨_, _, rfl, rfl, fun _ => rfl, fun h => by cases h⟩
  | true =>
   rw [cnd_tt, cnd_tt]
   by_cases hl : f.kids.length = 2
   ·rw [cnd_t (b := (f.kids.length : Int) == 2) (by simp [hl])]
    obtain ⟨x, y, hks⟩ : ∃ x y, f.kids = [x, y] := by
     revert hl
     cases f.kids with
     | nil => simp
     | cons x l => cases l with
      | nil => simp
      | cons y l => cases l with
       | nil => intro _; exact ⟨x, y, rfl⟩
       | cons _ _ => simp
    rw [hks, idx0, opK_some', idx1, opK_some', opK_s (complex_lim x y), opK_s (parts_lim x y)]
    refine ⟨_, _, rfl, rfl, fun hr => ?_, fun _ h => by omega⟩
    have hy := hr y (by simp)
    have hyh := htk y (by rw [hks]; simp)
    unfold partF rpartF
    cases hx : (exF x && exF y) with
    | false => rfl
    | true =>
     simp only [if_true]
     by_cases hy2 : y.kind = 2
     ·simp [hy2]
     ·have hy3 : y.kind = 3 := by
       unfold exF at hx
       simp at hx
       omega
      have := right_ratio y hyh hy3 hy
      simp [hy2, this]
   ·rw [cnd_f (b := (f.kids.length : Int) == 2) (by simp; omega), complex_no _ hl, opK_some']
    exact ⟨_, _, rfl, rfl, fun _ => rfl, fun h => by cases h⟩
 by_cases k10 : f.kind = 10
 ·simp only [k10, Int.reduceBEq, cnd_tt, cnd_ff]
  cases htx : (f.text == ([] : List UInt8)) with
  | false => exact ⟨_, _, rfl, rfl, fun _ => rfl, fun h => by cases h⟩
  | true =>
   simp only [cnd_tt]
   by_cases hl : 2 ≤ f.kids.length
   ·rw [cnd_t (b := decide ((f.kids.length : Int) ≥ 2)) (by simp; omega), cnd_t (b := ok64 _) (ok64_of (by omega) (by omega))]
    have hi : f.kids.length - 1 < f.kids.length := by omega
    have := idx_get (List.getElem?_eq_getElem hi)
    have e : ((f.kids.length : Int) - 1) = ((f.kids.length - 1 : Nat) : Int) := by omega
    rw [e, this]
    exact ⟨_, _, rfl, rfl, fun _ => rfl, fun _ h => by omega⟩
   ·rw [cnd_f (b := decide ((f.kids.length : Int) ≥ 2)) (by simp; omega)]
    exact ⟨_, _, rfl, rfl, fun _ => rfl, fun h => by cases h⟩
 by_cases k11 : f.kind = 11
 ·simp only [k11, Int.reduceBEq, cnd_tt, cnd_ff]
  refine ⟨_, _, rfl, ?_, fun _ => rfl, fun _ h => by omega⟩
  cases f.text == ([] : List UInt8) <;> rfl
 by_cases k12 : f.kind = 12
 ·simp only [k12, Int.reduceBEq, cnd_tt, cnd_ff]
  rw [dimensions_lim _ ht, rdimensions_lim _ ht, opK_some', opK_some']
  cases hd : (dimsF f.text).2 with
  | false => exact ⟨_, _, rfl, rfl, fun _ => rfl, fun h => by cases h⟩
  | true =>
   have := dims_len _ hd
   obtain ⟨p, q, g1, g2, g3⟩ := products (dimsF f.text).1 (dims_small f.text) (by unfold big; omega)
   rw [cnd_tt, cnd_tt, g1, g2]
   refine ⟨_, _, rfl, rfl, fun _ => ?_, fun _ h => by omega⟩
   have := g3 f.kids.length hk
   rw [Bool.eq_iff_iff, beq_iff_eq, beq_iff_eq, this]
   exact eq_comm
 by_cases k13 : f.kind = 13
 ·simp only [k13, Int.reduceBEq, cnd_tt, cnd_ff]
  rw [hsm, label_lim _ ht', opK_some']
  by_cases hl : f.kids.length = 1
  ·have e : ((f.kids.length : Int) == 1) = true := by simp [hl]
   simp only [e, cnd_tt, opK_some']
   refine ⟨_, _, rfl, ?_, fun _ => rfl, fun _ h => hl⟩
   cases (decF f.text && decide (numL 0 f.text ≤ 999)) <;> rfl
  ·have e : ((f.kids.length : Int) == 1) = false := by simp; omega
   simp only [e, cnd_ff]
   refine ⟨_, false, rfl, ?_, fun _ => rfl, fun h => by cases h⟩
   cases (decF f.text && decide (numL 0 f.text ≤ 999)) <;> rfl
 have z : ∀ n : Int, f.kind ≠ n → (f.kind == n) = false := fun n h => by simp [h]
 simp only [z _ k2, z _ k3, z _ k4, z _ k5, z _ k6, z _ k7, z _ k8, z _ k9, z _ k10, z _ k11, z _ k12, z _ k13, z _ k14, cnd_tt, cnd_ff] at hA ⊢
 exact fin _ k13 (hatom _ (fun _ => rfl) fun hz => ⟨_, rfl, hA hz⟩)
end Go.Proofs.YtpdgbhjhodhkiaaGreatDoor.AI
namespace Go.Proofs.YtpdgbhjhodhkiaaGreatDoor.AI
open Go Go.Proofs
mutual
def bulkF : Form → Nat
 | .mk _ t h ks => 1 + t.length + h.length + bulkL ks
def bulkL : List Form → Nat
 | [] => 0
 | x :: l => bulkF x + bulkL l
end
theorem bulkF_eq (f : Form) : bulkF f = 1 + f.text.length + f.home.length + bulkL f.kids := by cases f; rfl
theorem bulkF_mem {x : Form} {l : List Form} (h : x ∈ l) : bulkF x ≤ bulkL l := by
 induction l with
 | nil => cases h
 | cons y l ih =>
  simp only [bulkL]
  rcases List.mem_cons.1 h with rfl | h
  ·omega
  ·have := ih h; omega
mutual
theorem nodes_bulk : ∀ f : Form, nodesF f ≤ bulkF f
 | .mk _ _ _ ks => by have := nodes_bulkL ks; simp only [nodesF, bulkF]; omega
theorem nodes_bulkL : ∀ l : List Form, nodesL l ≤ bulkL l
 | [] => by simp [nodesL]
 | x :: l => by have := nodes_bulk x; have := nodes_bulkL l; simp only [nodesL, bulkL]; omega
end
theorem look_loop (ks : List Form) (k : Int) (t h : Bs) (d : Nat) (hd : d ≤ 100) (hks : ks.length < big)
  (hF : ∀ x ∈ ks, ∀ q : Nat, q ≤ 2000 → ∃ r : Bool × Int, lim.look x ((d + 1 : Nat) : Int) q = some r ∧ r.1 = decide (nodesF x ≤ q ∧ depthF x + d ≤ 100) ∧ (r.1 = true → r.2 = (q : Int) - nodesF x)) :
  ∀ (r : List Form) (i q : Nat), ks.drop i = r → i + r.length = ks.length → q ≤ 2000 →
   (nodesL r ≤ q ∧ depthL r + d ≤ 100 → ∃ j, lim.look_L0 d ks ks.length k t h ((i : Int), (q : Int)) = some (.inr (j, (q : Int) - nodesL r))) ∧
   (¬ (nodesL r ≤ q ∧ depthL r + d ≤ 100) → ∃ o, lim.look_L0 d ks ks.length k t h ((i : Int), (q : Int)) = some (.inl o))
 | [], i, q, hr, hl, hq => by
  simp only [List.length_nil, Nat.add_zero] at hl
  rw [look_L0_eq]
  unfold look_L0_R
  dsimp only
  rw [cnd_f (by simp; omega)]
  refine ⟨fun _ => ⟨i, ?_⟩, fun h => absurd ?_ h⟩
  ·simp [sumK, nodesL]
  ·simp [nodesL, depthL]; omega
 | x :: r, i, q, hr, hl, hq => by
  obtain ⟨h1, h2, h3⟩ := idx_drop hr
  simp only [List.length_cons] at hl
  have hks' := hks
  unfold big at hks'
  obtain ⟨⟨b, z⟩, g1, g2, g3⟩ := hF x (mem_drop hr) q hq
  rw [look_L0_eq]
  unfold look_L0_R
  simp only [look_K, chk_eq, chkP_eq, opK_some']
  rw [cnd_t (by simp; omega), opK_s h1, cnd_t (ok64_of (by omega) (by omega)), Form.eta, i1, opK_s g1]
  simp only at g2 g3
  simp only [nodesL, depthL]
  cases hb : b with
  | false =>
   rw [hb] at g2
   have g2 := of_decide_eq_false g2.symm
   rw [cnd_nf, sumK_inl]
   refine ⟨fun h => absurd ?_ g2, fun _ => ⟨_, rfl⟩⟩
   omega
  | true =>
   rw [hb] at g2
   have g2 := of_decide_eq_true g2.symm
   have g3 := g3 hb
   rw [cnd_nt, cnd_t (ok64_of (by omega) (by omega)), sumK_inr, g3, i1]
   have e : (q : Int) - nodesF x = ((q - nodesF x : Nat) : Int) := by omega
   rw [e]
   obtain ⟨k1, k2⟩ := look_loop ks k t h d hd hks hF r (i + 1) (q - nodesF x) h2 (by omega) (by omega)
   refine ⟨fun hh => ?_, fun hh => k2 (by omega)⟩
   obtain ⟨j, hj⟩ := k1 (by omega)
   refine ⟨j, ?_⟩
   rw [hj]
   congr 3
   omega
theorem look_lim : ∀ f : Form, nodesF f < big → ∀ d q : Nat, 1 ≤ d → d ≤ 101 → q ≤ 2000 → ∃ r : Bool × Int, lim.look f d q = some r ∧ r.1 = decide (nodesF f ≤ q ∧ depthF f + d ≤ 101) ∧ (r.1 = true → r.2 = (q : Int) - nodesF f) := by
 refine form_induct fun f ih hb d q h1 hd hq => ?_
 have hp := nodesF_pos f
 have hdp := depthF_eq f
 have hnp := nodesF_eq f
 have hl := length_le_nodesL f.kids
 rw [look_eq]
 unfold look_c
 rw [cnd_t (ok64_of (by omega) (by omega))]
 by_cases hq0 : q = 0
 ·rw [cnd_t (by simp; omega)]
  exact ⟨_, rfl, by rw [decide_eq_false]; omega, fun h => by cases h⟩
 ·rw [cnd_f (by simp; omega)]
  by_cases hd1 : d = 101
  ·rw [cnd_t (by simp; omega)]
   exact ⟨_, rfl, by rw [decide_eq_false]; omega, fun h => by cases h⟩
  ·rw [cnd_f (by simp; omega)]
   simp only [look_L0_K, chk_eq, opK_some']
   have e : (q : Int) - 1 = ((q - 1 : Nat) : Int) := by omega
   rw [e]
   obtain ⟨k1, k2⟩ := look_loop f.kids f.kind f.text f.home d (by omega) (by omega) (fun x hx q hq => by
    have hk := nodesF_kid hx
    obtain ⟨r, r1, r2, r3⟩ := ih x hx (by omega) (d + 1) q (by omega) (by omega) hq
    refine ⟨r, r1, ?_, r3⟩
    rw [r2]
    apply decide_eq_decide.2
    omega) f.kids 0 (q - 1) (by simp) (by simp) (by omega)
   by_cases hh : nodesL f.kids ≤ q - 1 ∧ depthL f.kids + d ≤ 100
   ·obtain ⟨j, hj⟩ := k1 hh
    have hj : lim.look_L0 d f.kids f.kids.length f.kind f.text f.home (0, ((q - 1 : Nat) : Int)) = _ := hj
    rw [opK_s hj, sumK_inr]
    refine ⟨_, rfl, ?_, fun _ => ?_⟩
    ·rw [decide_eq_true]; omega
    ·dsimp only; omega
   ·obtain ⟨o, ho⟩ := k2 hh
    have ho : lim.look_L0 d f.kids f.kids.length f.kind f.text f.home (0, ((q - 1 : Nat) : Int)) = _ := ho
    rw [opK_s ho, sumK_inl]
    refine ⟨_, rfl, ?_, fun h => by cases h⟩
    rw [decide_eq_false]; omega
theorem limited_lim (f : Form) (hb : nodesF f < big) : lim.limited f = some (decide (nodesF f ≤ 2000 ∧ depthF f ≤ 100)) := by
 rw [limited_eq]
 unfold limited_c
 simp only [look_K, chk_eq, chkP_eq, opK_some']
 obtain ⟨r, r1, r2, r3⟩ := look_lim f hb 1 2000 (by omega) (by omega) (by omega)
 have r1 : lim.look f 1 2000 = some r := r1
 rw [Form.eta, opK_s r1, r2]
 congr 1
 apply decide_eq_decide.2
 omega
inductive Good : Form → Prop
 | mk (f : Form) (h : f.kind = 13 → f.kids.length = 1) (k : ∀ x ∈ f.kids, Good x) : Good f
theorem Good.one {f : Form} (h : Good f) : f.kind = 13 → f.kids.length = 1 := by cases h; assumption
theorem Good.kid {f x : Form} (h : Good f) (hx : x ∈ f.kids) : Good x := by cases h with | mk _ _ k => exact k x hx
theorem right_of_through {f : Form} (h : lim.through f 0 = some (.inr ())) : lim.right f = some true := by
 rw [through_eq] at h
 unfold through_c at h
 rw [Form.eta] at h
 cases hr : lim.right f with
 | none => rw [hr] at h; cases h
 | some b =>
  rw [opK_s hr] at h
  cases b with
  | true => rfl
  | false => rw [cnd_nf] at h; cases h
theorem nodes_lim : ∀ f : Form, bulkF f ≤ 1048576 → nodesF f ≤ 2000 → (lim.through f 0 = some (.inr ()) ∧ lim.nodes f = some true ∧ Good f) ∨ (lim.through f 0 = some (.inl ()) ∧ lim.nodes f = some false) := by
 refine form_induct fun f ih hb hn => ?_
 have hbe := bulkF_eq f
 have hne := nodesF_eq f
 have hl := length_le_nodesL f.kids
 have hkid : ∀ x ∈ f.kids, bulkF x ≤ 1048576 ∧ nodesF x ≤ 2000 := fun x hx => by
  have := bulkF_mem hx
  have := nodesF_mem hx
  omega
 obtain ⟨b, c, n1, n2, n3, n4⟩ := node_agree f (by omega) (by unfold text64; omega) (by omega) (fun x hx => by
  have := hkid x hx
  have := bulkF_eq x
  unfold text64
  omega)
 let p : Form → Bool := fun x => decide (lim.nodes x = some true)
 have hT : (f.kids.all p = true ∧ ∃ o, lim.through_L0 f.kids f.kids.length 0 f.kind f.text f.home 0 = some (.inr o)) ∨ (f.kids.all p = false ∧ ∃ o, lim.through_L0 f.kids f.kids.length 0 f.kind f.text f.home 0 = some (.inl o)) := by
  refine all_loop (through_L0_eq _ _ _ _ _ _) p (fun i x g1 g2 g3 K => ?_) (fun K => ?_)
  ·have hx := List.mem_of_getElem? g1
   unfold through_L0_R
   simp only [through_K, chk_eq, chkP_eq, opK_some']
   rw [cnd_t (by simp; omega), opK_s g2, Form.eta]
   rcases ih x hx (hkid x hx).1 (hkid x hx).2 with ⟨q1, q2, _⟩ | ⟨q1, q2⟩
   ·rw [opK_s q1, sumK_inr, cnd_t (ok64_of (by omega) (by omega)), i1]
    exact ⟨fun _ => rfl, fun h => by simp [p, q2] at h⟩
   ·rw [opK_s q1, sumK_inl]
    exact ⟨fun h => by simp [p, q2] at h, fun _ => ⟨_, rfl⟩⟩
  ·unfold through_L0_R
   rw [cnd_f (by simp)]
   exact ⟨_, rfl⟩
 have hN : (f.kids.all p = true ∧ ∃ o, lim.nodes_L0 f.kind f.text f.home f.kids 0 = some (.inr o)) ∨ (f.kids.all p = false ∧ ∃ o, lim.nodes_L0 f.kind f.text f.home f.kids 0 = some (.inl o)) := by
  refine all_loop (nodes_L0_eq _ _ _ _) p (fun i x g1 g2 g3 K => ?_) (fun K => ?_)
  ·have hx := List.mem_of_getElem? g1
   unfold nodes_L0_R
   rw [cnd_t (by simp; omega), opK_s g2, Form.eta]
   rcases ih x hx (hkid x hx).1 (hkid x hx).2 with ⟨q1, q2, _⟩ | ⟨q1, q2⟩
   ·rw [opK_s q2, cnd_nt, cnd_t (ok64_of (by omega) (by omega)), i1]
    exact ⟨fun _ => rfl, fun h => by simp [p, q2] at h⟩
   ·rw [opK_s q2, cnd_nf]
    exact ⟨fun h => by simp [p, q2] at h, fun _ => ⟨_, rfl⟩⟩
  ·unfold nodes_L0_R
   rw [cnd_f (by simp)]
   exact ⟨_, rfl⟩
 rw [through_eq, nodes_eq]
 unfold through_c nodes_c
 simp only [through_L0_K, nodes_L0_K, chk_eq, opK_some']
 rw [Form.eta, opK_s n1, opK_s n2]
 rcases hT with ⟨a1, o, a2⟩ | ⟨a1, o, a2⟩
 ·rcases hN with ⟨b1, o', b2⟩ | ⟨b1, o', b2⟩
  case inr => rw [a1] at b1; cases b1
  have hall : ∀ x ∈ f.kids, lim.through x 0 = some (.inr ()) ∧ Good x := fun x hx => by
   have h1 := List.all_eq_true.1 a1 x hx
   have h1 : lim.nodes x = some true := of_decide_eq_true h1
   rcases ih x hx (hkid x hx).1 (hkid x hx).2 with ⟨q1, q2, q3⟩ | ⟨q1, q2⟩
   ·exact ⟨q1, q3⟩
   ·rw [h1] at q2; cases q2
  have hbc := n3 fun x hx => right_of_through (hall x hx).1
  subst hbc
  rw [opK_s a2, sumK_inr, opK_s b2, sumK_inr]
  cases b with
  | true => exact .inl ⟨rfl, rfl, .mk f (n4 rfl) fun x hx => (hall x hx).2⟩
  | false => exact .inr ⟨rfl, rfl⟩
 ·rcases hN with ⟨b1, o', b2⟩ | ⟨b1, o', b2⟩
  ·rw [a1] at b1; cases b1
  rw [opK_s a2, sumK_inl, opK_s b2, sumK_inl]
  cases b <;> cases c <;> exact .inr ⟨rfl, rfl⟩
end Go.Proofs.YtpdgbhjhodhkiaaGreatDoor.AI
namespace Go.Proofs.YtpdgbhjhodhkiaaGreatDoor.AI
open Go Go.Proofs
theorem keq2 (a b : Bs) : keqC 2 a b = (a == b) := rfl
theorem mget_mset : ∀ (es : List (Bs × Bool)) (x : Bs) (y : Bool) (t : Bs), mget (keqC 2) (mset (keqC 2) es x y) t = if t = x then some y else mget (keqC 2) es t
 | [], x, y, t => by
  show (bif keqC 2 t x then some y else none) = _
  rw [keq2]
  by_cases h : t = x
  ·simp [h]
  ·have : (t == x) = false := by simp [h]
   rw [this, if_neg h]
   rfl
 | (a, z) :: es, x, y, t => by
  show mget (keqC 2) (bif keqC 2 x a then (x, y) :: es else (a, z) :: mset (keqC 2) es x y) t = if t = x then some y else (bif keqC 2 t a then some z else mget (keqC 2) es t)
  rw [keq2, keq2]
  by_cases h : x = a
  ·subst h
   rw [show (x == x) = true by simp, cond_true]
   show (bif keqC 2 t x then some y else mget (keqC 2) es t) = _
   rw [keq2]
   by_cases h' : t = x
   ·simp [h']
   ·have : (t == x) = false := by simp [h']
    rw [this, if_neg h']
    rfl
  ·rw [show (x == a) = false by simp [h], cond_false]
   show (bif keqC 2 t a then some z else mget (keqC 2) (mset (keqC 2) es x y) t) = _
   rw [keq2, mget_mset es x y t]
   by_cases h' : t = x
   ·subst h'
    rw [show (t == a) = false by simp [h]]
    rfl
   ·rw [if_neg h', if_neg h']
theorem within_lim (l : List Bs) (t : Bs) (hl : l.length < big) : lim.within l t = some (l.contains t) := by
 unfold big at hl
 have : (l.all (fun x => !(x == t)) = true ∧ ∃ o, lim.within_L0 l t 0 = some (.inr o)) ∨ (l.all (fun x => !(x == t)) = false ∧ ∃ o, lim.within_L0 l t 0 = some (.inl o)) := by
  refine all_loop (within_L0_eq l t) (fun x => !(x == t)) (fun i x g1 g2 g3 K => ?_) (fun K => ?_)
  ·unfold within_L0_R
   rw [cnd_t (by simp; omega), opK_s g2]
   by_cases h : x = t
   ·rw [cnd_t (by simp [h])]
    exact ⟨fun q => by simp [h] at q, fun _ => ⟨_, rfl⟩⟩
   ·rw [cnd_f (by simp [h]), cnd_t (ok64_of (by omega) (by omega)), i1]
    exact ⟨fun _ => rfl, fun q => by simp [h] at q⟩
  ·unfold within_L0_R
   rw [cnd_f (by simp)]
   exact ⟨_, rfl⟩
 rw [within_eq]
 unfold within_c
 simp only [within_L0_K, chk_eq, opK_some']
 have e : l.contains t = !(l.all (fun x => !(x == t))) := by
  rw [Bool.eq_iff_iff]
  simp [List.contains_iff_mem]
 rcases this with ⟨a, o, b⟩ | ⟨a, o, b⟩
 ·rw [opK_s b, sumK_inr, e, a]; rfl
 ·rw [opK_s b, sumK_inl, e, a]; rfl
theorem labels_rest (k : Int) (t h : Bs) (ks : List Form) (l : List Bs) : (opK (lim.labels_P1 0 0 k t h ks l) fun o485 => sumK o485 (fun o486 => some (o486.fst, o486.snd)) (fun o499 => sumK o499 (fun o487 => opK (lim.labels_L0 k t h ks (o487.fst, o487.snd)) fun o488 => sumK o488 (fun o489 => some ((o489.fst, o489.snd.snd) : Int × List Bs)) (fun o490 => some (0, o490.snd))) (fun o491 => some (0, l))))
  = opK (lim.labels_L0 k t h ks (0, l)) fun o => sumK o (fun o489 => some (o489.fst, o489.snd.snd)) (fun o490 => some (0, o490.snd)) := by
 rw [labels_P1_eq]
 conv => rhs; rw [labels_L0_eq]
 unfold labels_P1_R labels_L0_R
 dsimp only
 cases ks with
 | nil => rfl
 | cons x r =>
  rw [cnd_t (by simp), cnd_t (by simp), idx0, opK_some', opK_some']
  simp only [labels_K, chkP_eq, opK_some']
  cases hl : lim.labels (Form.mk x.kind x.text x.home x.kids) l with
  | none => rfl
  | some y =>
   rw [opK_some', opK_some']
   cases hy : (y.fst != 0) with
   | true => rfl
   | false =>
    rw [cnd_ff, cnd_ff]
    cases ok64 (0 + 1) with
    | false => rfl
    | true => rfl
def related (m : List (Bs × Bool)) (l : List Bs) : Prop := ∀ t : Bs, Option.getD (mget (keqC 2) m t) false = l.contains t
theorem related_set {m : List (Bs × Bool)} {l : List Bs} (h : related m l) (t : Bs) : related (mset (keqC 2) m t true) (l ++ [t]) := by
 intro u
 refine (congrArg (fun z => Option.getD z false) (mget_mset m t true u)).trans ?_
 by_cases hu : u = t
 ·subst hu; simp
 ·refine (congrArg (fun z => Option.getD z false) (if_neg hu)).trans ?_
  refine (h u).trans ?_
  rw [Bool.eq_iff_iff]
  simp [List.contains_iff_mem, hu]
def Both (f : Form) : Prop := ∀ m l, related m l → l.length + nodesF f ≤ 100000 →
 (∃ m' l', lim.through_v1 f 0 m = some (.inr m') ∧ lim.labels f l = some (0, l') ∧ related m' l' ∧ l'.length ≤ l.length + nodesF f) ∨
 (∃ c m' l', lim.through_v1 f 0 m = some (.inl (c, m')) ∧ lim.labels f l = some (c, l') ∧ c ≠ 0)
theorem both_loop (k : Int) (t h : Bs) (ks : List Form) (hF : ∀ x ∈ ks, Both x) (hks : ks.length < big) : ∀ (r : List Form) (i : Nat) (m : List (Bs × Bool)) (l : List Bs), ks.drop i = r → i + r.length = ks.length → related m l → l.length + nodesL r ≤ 100000 →
  (∃ j j' m' l', lim.through_L1 ks ks.length 0 k t h ((i : Int), m) = some (.inr (j, m')) ∧ lim.labels_L0 k t h ks ((i : Int), l) = some (.inr (j', l')) ∧ related m' l' ∧ l'.length ≤ l.length + nodesL r) ∨
  (∃ c j j' m' l', lim.through_L1 ks ks.length 0 k t h ((i : Int), m) = some (.inl (j, c, m')) ∧ lim.labels_L0 k t h ks ((i : Int), l) = some (.inl (c, j', l')) ∧ c ≠ 0)
 | [], i, m, l, hr, hl, hm, hn => by
  simp only [List.length_nil, Nat.add_zero] at hl
  rw [through_L1_eq, labels_L0_eq]
  unfold through_L1_R labels_L0_R
  dsimp only
  rw [cnd_f (by simp; omega), cnd_f (by simp; omega)]
  exact .inl ⟨_, _, _, _, rfl, rfl, hm, by simp [nodesL]⟩
 | x :: r, i, m, l, hr, hl, hm, hn => by
  obtain ⟨h1, h2, h3⟩ := idx_drop hr
  simp only [List.length_cons] at hl
  simp only [nodesL] at hn ⊢
  have hks' := hks
  unfold big at hks'
  rw [through_L1_eq, labels_L0_eq]
  unfold through_L1_R labels_L0_R
  simp only [through_v1_K, labels_K, chk_eq, chkP_eq, opK_some']
  rw [cnd_t (by simp; omega), cnd_t (by simp; omega), h1, opK_some', opK_some', Form.eta]
  rcases hF x (mem_drop hr) m l hm (by omega) with ⟨m', l', g1, g2, g3, g4⟩ | ⟨c, m', l', g1, g2, g3⟩
  ·rw [g1, g2, opK_some', opK_some', sumK_inr, cnd_t (b := ok64 _) (ok64_of (by omega) (by omega)), cnd_f (by simp), cnd_t (b := ok64 _) (ok64_of (by omega) (by omega)), sumK_inr, sumK_inr, i1]
   rcases both_loop k t h ks hF hks r (i + 1) m' l' h2 (by omega) g3 (by omega) with ⟨j, j', m2, l2, q1, q2, q3, q4⟩ | ⟨c, j, j', m2, l2, q1, q2, q3⟩
   ·exact .inl ⟨j, j', m2, l2, q1, q2, q3, by omega⟩
   ·exact .inr ⟨c, j, j', m2, l2, q1, q2, q3⟩
  ·rw [g1, g2, opK_some', opK_some', sumK_inl, cnd_t (by simp [g3])]
   exact .inr ⟨c, _, _, _, _, rfl, rfl, g3⟩
theorem both_lim : ∀ f : Form, Good f → nodesF f ≤ 2000 → Both f := by
 refine form_induct fun f ih hg hn => ?_
 intro m l hm hlen
 have hne := nodesF_eq f
 have hl := length_le_nodesL f.kids
 have hF : ∀ x ∈ f.kids, Both x := fun x hx => ih x hx (hg.kid hx) (by have := nodesF_kid hx; omega)
 have hw : lim.within l f.text = some (l.contains f.text) := within_lim _ _ (by unfold big; omega)
 have hrest : ∀ m0 l0, related m0 l0 → l0.length ≤ l.length + 1 →
   (∃ m' l', (opK (lim.through_L1 f.kids f.kids.length 0 f.kind f.text f.home (0, m0)) fun o => sumK o (fun o => some (Sum.inl (o.snd.fst, o.snd.snd) : (Int × List (Bs × Bool)) ⊕ List (Bs × Bool))) (fun o => some (Sum.inr o.snd))) = some (.inr m') ∧ (opK (lim.labels_L0 f.kind f.text f.home f.kids (0, l0)) fun o => sumK o (fun o489 => some (o489.fst, o489.snd.snd)) (fun o490 => some (0, o490.snd))) = some (0, l') ∧ related m' l' ∧ l'.length ≤ l.length + nodesF f) ∨
   (∃ c m' l', (opK (lim.through_L1 f.kids f.kids.length 0 f.kind f.text f.home (0, m0)) fun o => sumK o (fun o => some (Sum.inl (o.snd.fst, o.snd.snd) : (Int × List (Bs × Bool)) ⊕ List (Bs × Bool))) (fun o => some (Sum.inr o.snd))) = some (.inl (c, m')) ∧ (opK (lim.labels_L0 f.kind f.text f.home f.kids (0, l0)) fun o => sumK o (fun o489 => some (o489.fst, o489.snd.snd)) (fun o490 => some (0, o490.snd))) = some (c, l') ∧ c ≠ 0) := by
  intro m0 l0 h0 hl0
  rcases both_loop f.kind f.text f.home f.kids hF (by unfold big; omega) f.kids 0 m0 l0 (by simp) (by simp) h0 (by omega) with ⟨j, j', m2, l2, q1, q2, q3, q4⟩ | ⟨c, j, j', m2, l2, q1, q2, q3⟩
  ·have q1 : lim.through_L1 f.kids f.kids.length 0 f.kind f.text f.home (0, m0) = _ := q1
   have q2 : lim.labels_L0 f.kind f.text f.home f.kids (0, l0) = _ := q2
   exact .inl ⟨m2, l2, by rw [q1]; rfl, by rw [q2]; rfl, q3, by omega⟩
  ·have q1 : lim.through_L1 f.kids f.kids.length 0 f.kind f.text f.home (0, m0) = _ := q1
   have q2 : lim.labels_L0 f.kind f.text f.home f.kids (0, l0) = _ := q2
   exact .inr ⟨c, m2, l2, by rw [q1]; rfl, by rw [q2]; rfl, q3⟩
 rw [through_v1_eq, labels_eq]
 unfold through_v1_c labels_c
 simp only [through_L1_K, labels_L0_K, labels_P1_K, chk_eq, chkP_eq, opK_some']
 rw [labels_rest]
 by_cases h13 : f.kind = 13
 ·have h14 : (f.kind == 14) = false := by simp [h13]
  rw [cnd_t (b := f.kind == 13) (by simp [h13]), cnd_t (b := f.kind == 13) (by simp [h13]), hm f.text, opK_s hw]
  cases hc : l.contains f.text with
  | true => exact .inr ⟨8, _, _, rfl, rfl, by omega⟩
  | false =>
   rw [cnd_ff, cnd_ff]
   obtain ⟨x, hx⟩ : ∃ x, idx f.kids 0 = some x := by
    have := hg.one h13
    cases hk : f.kids with
    | nil => rw [hk] at this; cases this
    | cons x r => exact ⟨x, rfl⟩
   rw [hx, opK_some', opK_some', opK_some']
   cases hx14 : (x.kind == 14) with
   | true => exact .inr ⟨30, _, _, rfl, rfl, by omega⟩
   | false =>
    rw [cnd_ff, cnd_ff]
    cases hx13 : (x.kind == 13) with
    | true => exact .inr ⟨30, _, _, rfl, rfl, by omega⟩
    | false =>
     rw [cnd_ff, cnd_ff, cnd_t (b := decide _) (by simp; omega), h14, cnd_ff]
     exact hrest _ _ (related_set hm f.text) (by simp)
 ·have h13' : (f.kind == 13) = false := by simp [h13]
  rw [h13', cnd_ff, cnd_ff]
  cases h14 : (f.kind == 14) with
  | false =>
   rw [cnd_ff, cnd_ff]
   exact hrest m l hm (by omega)
  | true =>
   rw [cnd_tt, cnd_tt, hm f.text, opK_s hw]
   cases hc : l.contains f.text with
   | false => exact .inr ⟨30, _, _, rfl, rfl, by omega⟩
   | true =>
    rw [cnd_nt, cnd_nt]
    exact hrest m l hm (by omega)
theorem check_agree (f : Form) (hb : bulkF f ≤ 1048576) : ∃ c, lim.Check f = some c ∧ lim.rCheck f = some c := by
 have hnb := nodes_bulk f
 have hbig : nodesF f < big := by unfold big; omega
 rw [Check_eq, rCheck_eq]
 unfold Check_c rCheck_c
 simp only [through_K, through_v1_K, labels_K, chk_eq, chkP_eq, opK_some']
 rw [Form.eta, opK_s (limited_lim f hbig), opK_s (rsize_lim f hbig)]
 by_cases hn : nodesF f ≤ 2000
 ·rw [cnd_f (b := decide ((nodesF f : Int) > 2000)) (by simp; omega)]
  by_cases hd : depthF f ≤ 100
  ·rw [cnd_f (b := decide ((depthF f : Int) > 100)) (by simp; omega), cnd_f (by simp [hn, hd])]
   rcases nodes_lim f hb hn with ⟨t1, t2, t3⟩ | ⟨t1, t2⟩
   ·rw [opK_s t1, opK_s t2, sumK_inr, cnd_nt]
    rcases both_lim f t3 hn [] [] (fun t => rfl) (by simp; omega) with ⟨m', l', g1, g2, g3, g4⟩ | ⟨c, m', l', g1, g2, g3⟩
    ·rw [opK_s g1, opK_s g2, sumK_inr]
     exact ⟨0, rfl, rfl⟩
    ·rw [opK_s g1, opK_s g2, sumK_inl]
     exact ⟨c, rfl, rfl⟩
   ·rw [opK_s t1, opK_s t2, sumK_inl, cnd_nf]
    exact ⟨2, rfl, rfl⟩
  ·rw [cnd_t (b := decide ((depthF f : Int) > 100)) (by simp; omega), cnd_t (by simp [hd])]
   exact ⟨4, rfl, rfl⟩
 ·rw [cnd_t (b := decide ((nodesF f : Int) > 2000)) (by simp; omega), cnd_t (by simp [hn])]
  exact ⟨4, rfl, rfl⟩
end Go.Proofs.YtpdgbhjhodhkiaaGreatDoor.AI
namespace Go.Proofs.YtpdgbhjhodhkiaaGreatDoor.AI
open Go Go.Proofs
theorem dgo_len_le : ∀ (s cur : Bs) (acc l : List Int), dgo s cur acc = some l → l.length ≤ acc.length + s.length + 1
 | [], cur, acc, l, h => by
  simp only [dgo] at h
  split at h
  ·injection h with h; subst h; simp
  ·cases h
 | b :: r, cur, acc, l, h => by
  simp only [dgo] at h
  split at h
  ·split at h
   ·have := dgo_len_le r _ _ l h
    simp at this ⊢
    omega
   ·cases h
  ·have := dgo_len_le r _ _ l h
   simp at this ⊢
   omega
theorem dims_len_le (s : Bs) : (dimsF s).1.length ≤ s.length + 1 := by
 unfold dimsF
 split
 ·simp
 ·split
  ·rename_i l h
   have := dgo_len_le _ _ _ _ h
   simpa using this
  ·simp
theorem dims_agree (f : Form) (hb : bulkF f ≤ 1048576) : ∃ (l : List Int) (c : Int), lim.Dimensions f = some (l, c) ∧ lim.rDimensions f = some (l, c) ∧ l.length ≤ 1048577 := by
 have hbe := bulkF_eq f
 obtain ⟨c, c1, c2⟩ := check_agree f hb
 obtain ⟨y, y1, y2⟩ := indexInt_lim [12, 11, 8, 9] f.kind (by unfold big; simp)
 have hd := dimensions_lim f.text (by omega)
 have hr := rdimensions_lim f.text (by omega)
 have hl := dims_len_le f.text
 have et : decide (f.text.length < 9223372036854775807) = true := by simp; omega
 rw [Dimensions_eq, rDimensions_eq]
 unfold Dimensions_c rDimensions_c
 rw [opK_s y1, y2]
 simp only [Form.eta, c1, c2, hd, hr, opK_some', et, cnd_tt]
 by_cases k12 : f.kind = 12
 ·simp only [k12, Int.reduceBEq, Int.reduceBNe, bne_self_eq_false, beq_self_eq_true, cnd_tt, cnd_ff, List.mem_cons, true_or, decide_true, cnd_nt]
  cases c != 0 with
  | true => exact ⟨_, _, rfl, rfl, by simp⟩
  | false => exact ⟨_, _, rfl, rfl, by omega⟩
 by_cases k11 : f.kind = 11
 ·simp only [k11, Int.reduceBEq, Int.reduceBNe, bne_self_eq_false, beq_self_eq_true, cnd_tt, cnd_ff, List.mem_cons, true_or, or_true, decide_true, cnd_nt]
  cases c != 0 with
  | true => exact ⟨_, _, rfl, rfl, by simp⟩
  | false => exact ⟨_, _, rfl, rfl, by simp⟩
 by_cases k8 : f.kind = 8
 ·simp only [k8, Int.reduceBEq, Int.reduceBNe, bne_self_eq_false, beq_self_eq_true, cnd_tt, cnd_ff, List.mem_cons, true_or, or_true, decide_true, cnd_nt]
  cases c != 0 with
  | true => exact ⟨_, _, rfl, rfl, by simp⟩
  | false => exact ⟨_, _, rfl, rfl, by simp⟩
 by_cases k9 : f.kind = 9
 ·simp only [k9, Int.reduceBEq, Int.reduceBNe, bne_self_eq_false, beq_self_eq_true, cnd_tt, cnd_ff, List.mem_cons, true_or, or_true, decide_true, cnd_nt]
  cases c != 0 with
  | true => exact ⟨_, _, rfl, rfl, by simp⟩
  | false => exact ⟨_, _, rfl, rfl, by simp⟩
 have z : ∀ n : Int, f.kind ≠ n → (f.kind != n) = true := fun n h => by simp [h]
 rw [decide_eq_false (by simp; omega), cnd_nf, z _ k12, z _ k11, z _ k8, z _ k9]
 exact ⟨_, _, rfl, rfl, by simp⟩
theorem is_agree (f : Form) (a b : Bs) : ∃ r, lim.Is f a b = some r ∧ lim.rIs f a b = some r := by
 rw [Is_eq, rIs_eq]
 unfold Is_c rIs_c
 cases f.kind == 1 with
 | false => exact ⟨_, rfl, rfl⟩
 | true =>
  rw [cnd_tt, cnd_tt]
  cases h1 : (f.text == b) <;> cases h2 : (f.home == a) <;> exact ⟨_, rfl, rfl⟩
theorem isNil_agree (f : Form) : ∃ r, lim.IsNil f = some r ∧ lim.rIsNil f = some r := by
 rw [IsNil_eq, rIsNil_eq]
 unfold IsNil_c rIsNil_c
 rw [Form.eta]
 obtain ⟨r, h1, h2⟩ := is_agree f [67, 79, 77, 77, 79, 78, 45, 76, 73, 83, 80] [78, 73, 76]
 rw [opK_s h1, opK_s h2]
 exact ⟨r, rfl, rfl⟩
theorem number_agree (f : Form) : ∃ r, lim.Number f = some r ∧ lim.rNumber f = some r := by
 rw [Number_eq, rNumber_eq]
 unfold Number_c rNumber_c
 cases decide (f.kind ≥ 2) <;> exact ⟨_, rfl, rfl⟩
theorem awake_lim : lim.awakeTrees = some true := by
 exact awakeTrees_eq
theorem formChecks_lim (f g : Form) (h n : Bs) (hf : bulkF f ≤ 1048576) (hg : bulkF g ≤ 1048576) : lim.FormChecks f g h n = some true := by
 have hnf := nodes_bulk f
 have hng := nodes_bulk g
 have bf : nodesF f < big := by unfold big; omega
 have bg : nodesF g < big := by unfold big; omega
 have few := few_lim f bf 2400 (by unfold big; omega)
 have few2 := few_lim g bg 2400 (by unfold big; omega)
 have few : lim.Few f 2400 = _ := few
 have few2 : lim.Few g 2400 = _ := few2
 obtain ⟨l, c, d1, d2, d3⟩ := dims_agree f hf
 obtain ⟨e, e1, e2⟩ := check_agree f hf
 obtain ⟨r, r1, r2⟩ := isNil_agree f
 obtain ⟨s, s1, s2⟩ := is_agree f h n
 obtain ⟨u, u1, u2⟩ := number_agree f
 rw [FormChecks_eq]
 unfold FormChecks_c
 simp only [FormChecks_L0_K, chk_eq, opK_some', Form.eta]
 rw [opK_s few]
 by_cases q1 : nodesF f ≤ 2400
 ·rw [decide_eq_true q1, cnd_nt, opK_s few2]
  by_cases q2 : nodesF g ≤ 2400
  ·rw [decide_eq_true q2, cnd_nt, opK_s (size_lim f bf), opK_s (rsize_lim f bf), opK_s d1, opK_s d2, opK_s e1, opK_s e2, cnd_f (by simp), cnd_f (by simp), cnd_f (by simp), cnd_f (by simp), cnd_f (by simp)]
   have hloop : (l.all (fun _ => true) = true ∧ ∃ o, lim.FormChecks_L0 h n l l l.length f.kind f.text f.home f.kids g.kind g.text g.home g.kids 0 = some (.inr o)) ∨ (l.all (fun _ => true) = false ∧ ∃ o, lim.FormChecks_L0 h n l l l.length f.kind f.text f.home f.kids g.kind g.text g.home g.kids 0 = some (.inl o)) := by
    refine all_loop (FormChecks_L0_eq _ _ _ _ _ _ _ _ _ _ _ _ _) (fun _ => true) (fun i x g1 g2 g3 K => ?_) (fun K => ?_)
    ·unfold FormChecks_L0_R
     rw [cnd_t (by simpa using g3), opK_s g2, opK_s g2, cnd_f (by simp), cnd_t (ok64_of (by omega) (by omega)), i1]
     exact ⟨fun _ => rfl, fun h => by simp at h⟩
    ·unfold FormChecks_L0_R
     rw [cnd_f (by simp)]
     exact ⟨_, rfl⟩
   rcases hloop with ⟨_, o, ho⟩ | ⟨hh, _⟩
   ·rw [opK_s ho, sumK_inr, opK_s r1, opK_s r2, cnd_t (by simp), opK_s s1, opK_s s2, cnd_t (by simp), opK_s u1, opK_s u2, cnd_t (by simp), opK_s (equal_lim f bf g), opK_s (requal_lim f bf g), cnd_t (by simp), opK_s awake_lim]
   ·simp at hh
  ·rw [decide_eq_false q2, cnd_nf, opK_s awake_lim]
 ·rw [decide_eq_false q1, cnd_nf, opK_s awake_lim]
theorem formChecks_law (f g : Form) (h n : Bs) (hf : bulkF f ≤ 1048576) (hg : bulkF g ≤ 1048576) : ∃ k, (tb k).FormChecks f g h n = some true :=
 ((FormChecks_rel (σ := fun n => n) (fun n => Nat.le_refl n) f g h n).2 true (formChecks_lim f g h n hf hg)).ex
end Go.Proofs.YtpdgbhjhodhkiaaGreatDoor.AI
