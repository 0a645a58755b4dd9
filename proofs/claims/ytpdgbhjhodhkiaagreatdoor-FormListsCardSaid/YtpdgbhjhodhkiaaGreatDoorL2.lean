/- The plain law: what the functions of the forms compute, by names. -/
import Derived.Test.YtpdgbhjhodhkiaaGreatDoorQ2
set_option linter.unnecessarySimpa false
set_option linter.unusedVariables false
set_option linter.unusedSimpArgs false
namespace Go.Proofs.YtpdgbhjhodhkiaaGreatDoor.AI
open Go Go.Proofs

/-- From some number on. -/
def Evt (p : Nat → Prop) : Prop := ∃ N, ∀ n, N ≤ n → p n
theorem Evt.now {p : Nat → Prop} (h : ∀ n, p n) : Evt p := ⟨0, fun n _ => h n⟩
theorem Evt.mono {p q : Nat → Prop} (h : Evt p) (k : ∀ n, p n → q n) : Evt q := by
  obtain ⟨N, h⟩ := h
  exact ⟨N, fun n hn => k n (h n hn)⟩
theorem Evt.and {p q : Nat → Prop} (h : Evt p) (k : Evt q) : Evt fun n => p n ∧ q n := by
  obtain ⟨N, h⟩ := h
  obtain ⟨M, k⟩ := k
  exact ⟨max N M, fun n hn => ⟨h n (by omega), k n (by omega)⟩⟩
theorem Evt.succ {p : Nat → Prop} (h : Evt fun n => p (n + 1)) : Evt p := by
  obtain ⟨N, h⟩ := h
  exact ⟨N + 1, fun n hn => by
    cases n with
    | zero => omega
    | succ n => exact h n (by omega)⟩
theorem Evt.ge (k : Nat) : Evt fun n => k ≤ n := ⟨k, fun _ h => h⟩
theorem Evt.all {X : Type} {l : List X} {p : X → Nat → Prop} (h : ∀ x ∈ l, Evt (p x)) : Evt fun n => ∀ x ∈ l, p x n := by
  induction l with
  | nil => exact Evt.now fun n x hx => by cases hx
  | cons x l ih =>
    refine ((h x (by simp)).and (ih fun y hy => h y (by simp [hy]))).mono fun n hn y hy => ?_
    rcases List.mem_cons.1 hy with rfl | hy
    · exact hn.1
    · exact hn.2 y hy
theorem Evt.ex {p : Nat → Prop} (h : Evt p) : ∃ n, p n := by
  obtain ⟨N, h⟩ := h
  exact ⟨N, h N (Nat.le_refl _)⟩

theorem cnd_t {R : Type} {b : Bool} {x y : Option R} (h : b = true) : cnd b x y = x := by rw [h]; rfl
theorem cnd_f {R : Type} {b : Bool} {x y : Option R} (h : b = false) : cnd b x y = y := by rw [h]; rfl
theorem opK_s {R X : Type} {o : Option X} {x : X} {k : X → Option R} (h : o = some x) : opK o k = k x := by rw [h]; rfl
theorem opK_some' {R X : Type} {x : X} {k : X → Option R} : opK (some x) k = k x := rfl
theorem sumK_inl {R X Y : Type} {x : X} {f : X → Option R} {g : Y → Option R} : sumK (.inl x) f g = f x := rfl
theorem sumK_inr {R X Y : Type} {y : Y} {f : X → Option R} {g : Y → Option R} : sumK (.inr y) f g = g y := rfl
theorem ok64_of {n : Int} (h1 : -9223372036854775808 ≤ n) (h2 : n ≤ 9223372036854775807) : ok64 n = true := by simp [ok64, h1, h2]
theorem Form.eta (f : Form) : Form.mk f.kind f.text f.home f.kids = f := by cases f; rfl
theorem idx_get {X : Type} {l : List X} {i : Nat} {x : X} (h : l[i]? = some x) : idx l (i : Int) = some x := by
  unfold idx
  rw [if_pos (by omega)]
  simpa using h
/-- A list read from one place on. -/
theorem idx_drop {X : Type} {l r : List X} {x : X} {i : Nat} (h : l.drop i = x :: r) : idx l (i : Int) = some x ∧ l.drop (i + 1) = r ∧ i < l.length := by
  have hi : i < l.length := by
    apply Nat.lt_of_not_le
    intro hle
    rw [List.drop_eq_nil_of_le hle] at h
    cases h
  rw [List.drop_eq_getElem_cons hi] at h
  injection h with h1 h2
  exact ⟨idx_get (by rw [List.getElem?_eq_getElem hi, h1]), h2, hi⟩

/-! ### Trees -/
mutual
def nodesF : Form → Nat
  | .mk _ _ _ ks => 1 + nodesL ks
def nodesL : List Form → Nat
  | [] => 0
  | x :: l => nodesF x + nodesL l
end
mutual
def depthF : Form → Nat
  | .mk _ _ _ ks => depthL ks + 1
def depthL : List Form → Nat
  | [] => 0
  | x :: l => max (depthF x) (depthL l)
end
theorem nodesF_pos (f : Form) : 1 ≤ nodesF f := by cases f; simp only [nodesF]; omega
theorem nodesF_eq (f : Form) : nodesF f = 1 + nodesL f.kids := by cases f; rfl
theorem depthF_eq (f : Form) : depthF f = depthL f.kids + 1 := by cases f; rfl
theorem nodesL_app (a b : List Form) : nodesL (a ++ b) = nodesL a + nodesL b := by
  induction a with
  | nil => simp [nodesL]
  | cons x a ih => simp only [List.cons_append, nodesL, ih]; omega
theorem length_le_nodesL (l : List Form) : l.length ≤ nodesL l := by
  induction l with
  | nil => simp
  | cons x l ih => have := nodesF_pos x; simp only [List.length_cons, nodesL]; omega
mutual
theorem depth_le : ∀ f : Form, depthF f ≤ nodesF f
  | .mk _ _ _ ks => by have := depth_leL ks; simp only [depthF, nodesF]; omega
theorem depth_leL : ∀ l : List Form, depthL l ≤ nodesL l
  | [] => by simp [depthL]
  | x :: l => by have := depth_le x; have := depth_leL l; simp only [depthL, nodesL]; omega
end
theorem nodesF_mem {x : Form} {l : List Form} (h : x ∈ l) : nodesF x ≤ nodesL l := by
  induction l with
  | nil => cases h
  | cons y l ih =>
    simp only [nodesL]
    rcases List.mem_cons.1 h with rfl | h
    · omega
    · have := ih h; omega
theorem form_induct {p : Form → Prop} (h : ∀ f, (∀ x ∈ f.kids, p x) → p f) : ∀ f, p f := by
  have key : ∀ n f, nodesF f ≤ n → p f := by
    intro n
    induction n with
    | zero => intro f hf; have := nodesF_pos f; omega
    | succ n ih =>
      intro f hf
      refine h f fun x hx => ih x ?_
      have := nodesF_mem hx
      rw [nodesF_eq] at hf
      omega
  exact fun f => key _ f (Nat.le_refl _)
/-- No machine holds more. -/
def big : Nat := 4611686018427387904

/-! ### Size -/
theorem size_loop (F : Tb) (n : Nat) (ks : List Form) (p2 : Int) (p3 p4 : Bs) (hF : ∀ x ∈ ks, F.Size x = some ((nodesF x : Int), (depthF x : Int))) :
    ∀ (r : List Form) (i m a d : Nat), ks.drop i = r → i + r.length = ks.length → r.length < m → a + nodesL r < big → i + r.length < big →
      Size_L601011 F n m ks ks.length p2 p3 p4 ((a : Int), (d : Int), (i : Int)) = some (((a + nodesL r : Nat) : Int), ((max d (depthL r) : Nat) : Int), (ks.length : Int))
  | [], i, m, a, d, h, hl, hm, hb, hi => by
    cases m with
    | zero => simp at hm
    | succ m =>
      simp only [List.length_nil, Nat.add_zero] at hl
      simp only [Size_L601011, Size_L601011_R]
      rw [cnd_f (by simp; omega)]
      simp [sumK, nodesL, depthL, hl]
  | x :: r, i, m, a, d, h, hl, hm, hb, hi => by
    obtain ⟨h1, h2, h3⟩ := idx_drop h
    cases m with
    | zero => simp at hm
    | succ m =>
      have hx : x ∈ ks := List.mem_of_getElem? (i := i) (by
        unfold idx at h1; rw [if_pos (by omega)] at h1; simpa using h1)
      simp only [List.length_cons] at hl hm hi
      simp only [nodesL] at hb
      have hp := nodesF_pos x
      unfold big at hb hi
      simp only [Size_L601011, Size_L601011_R]
      rw [cnd_t (by simp; omega), opK_s h1, Form.eta, opK_s (hF x hx), cnd_t (ok64_of (by omega) (by omega)), cnd_t (ok64_of (by omega) (by omega)), sumK_inr]
      have e1 : ((a : Int) + (nodesF x : Int)) = ((a + nodesF x : Nat) : Int) := by omega
      have e2 : max (d : Int) (depthF x : Int) = ((max d (depthF x) : Nat) : Int) := by omega
      have e3 : ((i : Int) + 1) = ((i + 1 : Nat) : Int) := by omega
      rw [e1, e2, e3, size_loop F n ks p2 p3 p4 hF r (i + 1) m _ _ h2 (by omega) (by omega) (by unfold big; omega) (by unfold big; omega)]
      simp only [nodesL, depthL, Nat.add_assoc, Nat.max_assoc]
theorem size_ev : ∀ f : Form, nodesF f < big → Evt fun n => (tb n).Size f = some ((nodesF f : Int), (depthF f : Int)) := by
  refine form_induct fun f ih hb => ?_
  have hb' := hb
  rw [nodesF_eq] at hb
  refine Evt.succ (((Evt.all (fun x hx => ih x hx (by have := nodesF_mem hx; omega))).and (Evt.ge (f.kids.length + 1))).mono fun n hn => ?_)
  have hl := length_le_nodesL f.kids
  have hd := depth_leL f.kids
  show Size_c (tb n) n f some = _
  unfold Size_c
  have hs := size_loop (tb n) n f.kids f.kind f.text f.home hn.1 f.kids 0 n 1 0 (by simp) (by simp) (by omega) (by omega) (by omega)
  have hs : Size_L601011 (tb n) n n f.kids f.kids.length f.kind f.text f.home (1, 0, 0) = _ := hs
  rw [opK_s (chk_eq _ _), opK_s hs]
  unfold big at hb
  rw [cnd_t (ok64_of (by simp only; omega) (by simp only; omega))]
  rw [nodesF_eq, depthF_eq]
  simp

/-! ### Few -/
mutual
def leftF : Form → Int → Int
  | .mk _ _ _ ks, n => leftL ks (n - 1)
def leftL : List Form → Int → Int
  | [], n => n
  | x :: l, n => if 0 ≤ n then leftL l (leftF x n) else n
end
theorem leftF_eq (f : Form) (n : Int) : leftF f n = leftL f.kids (n - 1) := by cases f; rfl
mutual
theorem leftF_spec : ∀ (f : Form) (n : Int), 0 ≤ n → -1 ≤ leftF f n ∧ (0 ≤ leftF f n ↔ (nodesF f : Int) ≤ n) ∧ leftF f n ≤ n - 1 ∧ (0 ≤ leftF f n → leftF f n = n - nodesF f)
  | .mk _ _ _ ks, n, hn => by
    have := leftL_spec ks (n - 1) (by omega)
    simp only [leftF, nodesF]
    omega
theorem leftL_spec : ∀ (l : List Form) (n : Int), -1 ≤ n → -1 ≤ leftL l n ∧ (0 ≤ leftL l n ↔ (nodesL l : Int) ≤ n) ∧ leftL l n ≤ n ∧ (0 ≤ leftL l n → leftL l n = n - nodesL l)
  | [], n, hn => by simp only [leftL, nodesL]; omega
  | x :: l, n, hn => by
    simp only [leftL, nodesL]
    have hp := nodesF_pos x
    split
    · rename_i h0
      have h1 := leftF_spec x n h0
      have h2 := leftL_spec l (leftF x n) h1.1
      omega
    · omega
end
theorem left_loop (F : Tb) (n : Nat) (p0 : Int) (p1 p2 : Bs) (ks : List Form) (hF : ∀ x ∈ ks, ∀ q : Int, 0 ≤ q → q < big → F.left x q = some (leftF x q)) :
    ∀ (r : List Form) (i m : Nat) (q : Int), ks.drop i = r → i + r.length = ks.length → r.length < m → -1 ≤ q → i + q < big →
      ∃ j : Int, left_L601011 F n m p0 p1 p2 ks (q, (i : Int)) = some (leftL r q, j)
  | [], i, m, q, h, hl, hm, hq, hi => by
    cases m with
    | zero => simp at hm
    | succ m =>
      simp only [List.length_nil, Nat.add_zero] at hl
      simp only [left_L601011, left_L601011_R]
      rw [cnd_f (by simp; omega)]
      exact ⟨_, rfl⟩
  | x :: r, i, m, q, h, hl, hm, hq, hi => by
    obtain ⟨h1, h2, h3⟩ := idx_drop h
    cases m with
    | zero => simp at hm
    | succ m =>
      have hx : x ∈ ks := List.mem_of_getElem? (i := i) (by
        unfold idx at h1; rw [if_pos (by omega)] at h1; simpa using h1)
      simp only [List.length_cons] at hl hm
      simp only [left_L601011, left_L601011_R, leftL]
      rw [cnd_t (by simp; omega)]
      by_cases h0 : 0 ≤ q
      · have hs := leftF_spec x q h0
        unfold big at hi
        rw [cnd_t (by simpa using h0), opK_s h1, Form.eta, opK_s (hF x hx q h0 (by unfold big; omega)), cnd_t (ok64_of (by omega) (by omega)), sumK_inr, if_pos h0]
        have e3 : ((i : Int) + 1) = ((i + 1 : Nat) : Int) := by omega
        rw [e3]
        exact left_loop F n p0 p1 p2 ks hF r (i + 1) m _ h2 (by omega) (by omega) hs.1 (by unfold big; omega)
      · rw [cnd_f (by simpa using h0), if_neg h0]
        exact ⟨_, rfl⟩
theorem left_ev : ∀ f : Form, ∀ q : Int, 0 ≤ q → q < big → Evt fun n => (tb n).left f q = some (leftF f q) := by
  have key : ∀ f : Form, Evt fun n => ∀ q : Int, 0 ≤ q → q < big → (tb n).left f q = some (leftF f q) := by
    refine form_induct fun f ih => ?_
    refine Evt.succ (((Evt.all ih).and (Evt.ge (f.kids.length + 1))).mono fun n hn q h0 hq => ?_)
    show left_c (tb n) n f q some = _
    unfold left_c
    have hq' := hq
    unfold big at hq
    obtain ⟨j, hj⟩ := left_loop (tb n) n f.kind f.text f.home f.kids hn.1 f.kids 0 n (q - 1) (by simp) (by simp) (by omega) (by omega) (by omega)
    have hj : left_L601011 (tb n) n n f.kind f.text f.home f.kids (q - 1, 0) = some (leftL f.kids (q - 1), j) := by simpa using hj
    rw [cnd_t (ok64_of (by omega) (by omega)), opK_s (chk_eq _ _), opK_s hj, leftF_eq]
  exact fun f q h0 hq => (key f).mono fun n h => h q h0 hq
theorem few_ev (f : Form) (q : Nat) (hq : q < big) : Evt fun n => (tb n).Few f q = some (decide (nodesF f ≤ q)) := by
  refine Evt.succ ((left_ev f q (by omega) (by omega)).mono fun n hn => ?_)
  show Few_c (tb n) n f q some = _
  unfold Few_c
  rw [Form.eta, opK_s hn]
  have := leftF_spec f q (by omega)
  congr 1
  apply decide_eq_decide.2
  omega

/-! ### Equality -/
theorem bne_false {X : Type} [BEq X] [LawfulBEq X] {a b : X} (h : a = b) : (a != b) = false := by simp [h]
mutual
theorem form_eq : ∀ a b : Form, a = b ↔ a.kind = b.kind ∧ a.text = b.text ∧ a.home = b.home ∧ a.kids = b.kids
  | .mk _ _ _ _, .mk _ _ _ _ => by simp [Form.kind, Form.text, Form.home, Form.kids]
end
open Classical in
noncomputable instance : DecidableEq Form := fun a b => propDecidable _
theorem requal_loop (F : Tb) (n : Nat) (p0 : Int) (p1 p2 : Bs) (k1 : List Form) (p4 : Int) (p5 p6 : Bs) (k2 : List Form) (hF : ∀ x ∈ k1, ∀ y, F.rEqual x y = some (decide (x = y))) (hlen : k1.length = k2.length) (hb : k1.length < big) :
    ∀ (r1 r2 : List Form) (i m : Nat), k1.drop i = r1 → k2.drop i = r2 → i + r1.length = k1.length → r1.length < m →
      (r1 = r2 → rEqual_L601011 F n m p0 p1 p2 k1 p4 p5 p6 k2 (i : Int) = some (.inr (k1.length : Int))) ∧ (r1 ≠ r2 → ∃ j, rEqual_L601011 F n m p0 p1 p2 k1 p4 p5 p6 k2 (i : Int) = some (.inl j))
  | [], r2, i, m, h1, h2, hl, hm => by
    cases m with
    | zero => simp at hm
    | succ m =>
      simp only [List.length_nil, Nat.add_zero] at hl
      have : r2 = [] := by rw [← h2]; exact List.drop_eq_nil_of_le (by omega)
      subst this
      refine ⟨fun _ => ?_, fun h => absurd rfl h⟩
      simp only [rEqual_L601011, rEqual_L601011_R]
      rw [cnd_f (by simp; omega), sumK_inl, hl]
  | x :: r1, r2, i, m, h1, h2, hl, hm => by
    obtain ⟨a1, a2, a3⟩ := idx_drop h1
    cases m with
    | zero => simp at hm
    | succ m =>
      have hx : x ∈ k1 := List.mem_of_getElem? (i := i) (by
        unfold idx at a1; rw [if_pos (by omega)] at a1; simpa using a1)
      simp only [List.length_cons] at hl hm
      cases r2 with
      | nil =>
        have := List.drop_eq_nil_iff.1 h2
        omega
      | cons y r2 =>
        obtain ⟨b1, b2, b3⟩ := idx_drop h2
        have ih := requal_loop F n p0 p1 p2 k1 p4 p5 p6 k2 hF hlen hb r1 r2 (i + 1) m a2 b2 (by omega) (by omega)
        unfold big at hb
        simp only [rEqual_L601011, rEqual_L601011_R]
        rw [cnd_t (by simp; omega), opK_s a1, opK_s b1, Form.eta, Form.eta, opK_s (hF x hx y)]
        have e3 : ((i : Int) + 1) = ((i + 1 : Nat) : Int) := by omega
        by_cases hxy : x = y
        · subst hxy
          rw [cnd_f (by simp), cnd_t (ok64_of (by omega) (by omega)), sumK_inr, e3]
          refine ⟨fun h => ih.1 (by injection h), fun h => ih.2 (fun e => h (by rw [e]))⟩
        · rw [cnd_t (by simp [hxy]), sumK_inl]
          exact ⟨fun h => absurd (by injection h) hxy, fun _ => ⟨_, rfl⟩⟩
theorem requal_ev : ∀ a b : Form, a.kids.length < big → (∀ x ∈ a.kids, nodesF x < big) → nodesF a < big → Evt fun n => (tb n).rEqual a b = some (decide (a = b)) := by
  have key : ∀ a : Form, nodesF a < big → Evt fun n => ∀ b, (tb n).rEqual a b = some (decide (a = b)) := by
    refine form_induct fun a ih hb => ?_
    rw [nodesF_eq] at hb
    refine Evt.succ (((Evt.all (fun x hx => ih x hx (by have := nodesF_mem hx; omega))).and (Evt.ge (a.kids.length + 1))).mono fun n hn b => ?_)
    show rEqual_c (tb n) n a b some = _
    unfold rEqual_c
    have hl := length_le_nodesL a.kids
    by_cases h1 : a.kind = b.kind
    · rw [cnd_f (by simp [h1])]
      by_cases h2 : a.text = b.text
      · rw [cnd_f (by simp [h2])]
        by_cases h3 : a.home = b.home
        · rw [cnd_f (by simp [h3])]
          by_cases h4 : a.kids.length = b.kids.length
          · rw [cnd_f (by simp [h4]), opK_s (chk_eq _ _)]
            have hloop := requal_loop (tb n) n a.kind a.text a.home a.kids b.kind b.text b.home b.kids (fun x hx y => hn.1 x hx y) h4 (by omega) a.kids b.kids 0 n (by simp) (by simp) (by simp) (by omega)
            by_cases h5 : a.kids = b.kids
            · rw [opK_s (by simpa using hloop.1 h5), sumK_inr]
              simp [(form_eq a b).2 ⟨h1, h2, h3, h5⟩]
            · obtain ⟨j, hj⟩ := hloop.2 h5
              rw [opK_s (by simpa using hj), sumK_inl]
              have : ¬ a = b := fun e => h5 (by rw [e])
              simp [this]
          · rw [cnd_t (by simp; omega)]
            have : ¬ a = b := fun e => h4 (by rw [e])
            simp [this]
        · rw [cnd_t (by simp [h3])]
          have : ¬ a = b := fun e => h3 (by rw [e])
          simp [this]
      · rw [cnd_t (by simp [h2])]
        have : ¬ a = b := fun e => h2 (by rw [e])
        simp [this]
    · rw [cnd_t (by simp [h1])]
      have : ¬ a = b := fun e => h1 (by rw [e])
      simp [this]
  exact fun a b _ _ h => (key a h).mono fun n h => h b
end Go.Proofs.YtpdgbhjhodhkiaaGreatDoor.AI
/- The plain law of lists: List, Dotted, Spread, Items, Call, of the program and of the reference. -/
set_option linter.unnecessarySimpa false
set_option linter.unusedVariables false
set_option linter.unusedSimpArgs false
namespace Go.Proofs.YtpdgbhjhodhkiaaGreatDoor.AI
open Go Go.Proofs

theorem mem_drop {X : Type} {l r : List X} {x : X} {i : Nat} (h : l.drop i = x :: r) : x ∈ l := by
  have : x ∈ l.drop i := by rw [h]; simp
  exact List.mem_of_mem_drop this
/-! ### Equal -/
theorem efunc_loop (F : Tb) (n : Nat) (k2 k1 : List Form) (hF : ∀ x ∈ k1, ∀ y, F.Equal x y = some (decide (x = y))) (hlen : k1.length = k2.length) (hb : k1.length < big) :
    ∀ (r1 r2 : List Form) (i m : Nat), k1.drop i = r1 → k2.drop i = r2 → i + r1.length = k1.length → r1.length < m →
      (r1 = r2 → EqualFunc_L601011 F n m k2 k1 k1.length (i : Int) = some (.inr (k1.length : Int))) ∧ (r1 ≠ r2 → ∃ j, EqualFunc_L601011 F n m k2 k1 k1.length (i : Int) = some (.inl j))
  | [], r2, i, m, h1, h2, hl, hm => by
    cases m with
    | zero => simp at hm
    | succ m =>
      simp only [List.length_nil, Nat.add_zero] at hl
      have : r2 = [] := by rw [← h2]; exact List.drop_eq_nil_of_le (by omega)
      subst this
      refine ⟨fun _ => ?_, fun h => absurd rfl h⟩
      simp only [EqualFunc_L601011, EqualFunc_L601011_R]
      rw [cnd_f (by simp; omega), sumK_inl, hl]
  | x :: r1, r2, i, m, h1, h2, hl, hm => by
    obtain ⟨a1, a2, a3⟩ := idx_drop h1
    cases m with
    | zero => simp at hm
    | succ m =>
      have hx : x ∈ k1 := mem_drop h1
      simp only [List.length_cons] at hl hm
      cases r2 with
      | nil =>
        have := List.drop_eq_nil_iff.1 h2
        omega
      | cons y r2 =>
        obtain ⟨b1, b2, b3⟩ := idx_drop h2
        have ih := efunc_loop F n k2 k1 hF hlen hb r1 r2 (i + 1) m a2 b2 (by omega) (by omega)
        unfold big at hb
        simp only [EqualFunc_L601011, EqualFunc_L601011_R]
        rw [cnd_t (by simp; omega), opK_s a1, opK_s b1, Form.eta, Form.eta, opK_s (hF x hx y)]
        have e3 : ((i : Int) + 1) = ((i + 1 : Nat) : Int) := by omega
        by_cases hxy : x = y
        · subst hxy
          rw [cnd_f (by simp), cnd_t (ok64_of (by omega) (by omega)), sumK_inr, e3]
          refine ⟨fun h => ih.1 (by injection h), fun h => ih.2 (fun e => h (by rw [e]))⟩
        · rw [cnd_t (by simp [hxy]), sumK_inl]
          exact ⟨fun h => absurd (by injection h) hxy, fun _ => ⟨_, rfl⟩⟩
theorem equal_ev : ∀ a b : Form, nodesF a < big → Evt fun n => (tb n).Equal a b = some (decide (a = b)) := by
  have key : ∀ a : Form, nodesF a < big → Evt fun n => ∀ b, (tb n).Equal a b = some (decide (a = b)) := by
    refine form_induct fun a ih hb => ?_
    rw [nodesF_eq] at hb
    refine Evt.succ (Evt.mono (p := fun n => ∀ b, (tb n).EqualFunc_f22 a.kids b = some (decide (a.kids = b))) ?_ fun n hn b => ?_)
    · refine Evt.succ (((Evt.all (fun x hx => ih x hx (by have := nodesF_mem hx; omega))).and (Evt.ge (a.kids.length + 1))).mono fun n hn b => ?_)
      show EqualFunc_c (tb n) n a.kids b some = _
      unfold EqualFunc_c
      have hl := length_le_nodesL a.kids
      by_cases h4 : a.kids.length = b.length
      · rw [cnd_f (by simp [h4]), opK_s (chk_eq _ _)]
        have hloop := efunc_loop (tb n) n b a.kids (fun x hx y => hn.1 x hx y) h4 (by omega) a.kids b 0 n (by simp) (by simp) (by simp) (by omega)
        by_cases h5 : a.kids = b
        · rw [opK_s (by simpa using hloop.1 h5), sumK_inr]
          simp [h5]
        · obtain ⟨j, hj⟩ := hloop.2 h5
          rw [opK_s (by simpa using hj), sumK_inl]
          simp [h5]
      · rw [cnd_t (by simp; omega)]
        have : ¬ a.kids = b := fun e => h4 (by rw [e])
        simp [this]
    · show Equal_c (tb n) n a b some = _
      unfold Equal_c
      by_cases h1 : a.kind = b.kind
      · rw [cnd_t (by simp [h1])]
        by_cases h2 : a.text = b.text
        · rw [cnd_t (by simp [h2])]
          by_cases h3 : a.home = b.home
          · rw [cnd_t (by simp [h3]), opK_s (hn _)]
            congr 1
            apply decide_eq_decide.2
            rw [form_eq a b]
            exact ⟨fun h => ⟨h1, h2, h3, h⟩, fun h => h.2.2.2⟩
          · rw [cnd_f (by simp [h3])]
            have : ¬ a = b := fun e => h3 (by rw [e])
            simp [this]
        · rw [cnd_f (by simp [h2])]
          have : ¬ a = b := fun e => h2 (by rw [e])
          simp [this]
      · rw [cnd_f (by simp [h1])]
        have : ¬ a = b := fun e => h1 (by rw [e])
        simp [this]
  exact fun a b h => (key a h).mono fun n h => h b
theorem same_loop (F : Tb) (n : Nat) (k1 k2 : List Form) (hF : ∀ x ∈ k1, ∀ y ∈ k2, F.rEqual x y = some (decide (x = y))) (hlen : k1.length = k2.length) (hb : k1.length < big) :
    ∀ (r1 r2 : List Form) (i m : Nat), k1.drop i = r1 → k2.drop i = r2 → i + r1.length = k1.length → r1.length < m →
      (r1 = r2 → same_L601011 F n m k1 k2 k1.length (i : Int) = some (.inr (k1.length : Int))) ∧ (r1 ≠ r2 → ∃ j, same_L601011 F n m k1 k2 k1.length (i : Int) = some (.inl j))
  | [], r2, i, m, h1, h2, hl, hm => by
    cases m with
    | zero => simp at hm
    | succ m =>
      simp only [List.length_nil, Nat.add_zero] at hl
      have : r2 = [] := by rw [← h2]; exact List.drop_eq_nil_of_le (by omega)
      subst this
      refine ⟨fun _ => ?_, fun h => absurd rfl h⟩
      simp only [same_L601011, same_L601011_R]
      rw [cnd_f (by simp; omega), sumK_inl, hl]
  | x :: r1, r2, i, m, h1, h2, hl, hm => by
    obtain ⟨a1, a2, a3⟩ := idx_drop h1
    cases m with
    | zero => simp at hm
    | succ m =>
      have hx : x ∈ k1 := mem_drop h1
      simp only [List.length_cons] at hl hm
      cases r2 with
      | nil =>
        have := List.drop_eq_nil_iff.1 h2
        omega
      | cons y r2 =>
        obtain ⟨b1, b2, b3⟩ := idx_drop h2
        have ih := same_loop F n k1 k2 hF hlen hb r1 r2 (i + 1) m a2 b2 (by omega) (by omega)
        unfold big at hb
        simp only [same_L601011, same_L601011_R]
        rw [cnd_t (by simp; omega), opK_s a1, opK_s b1, Form.eta, Form.eta, opK_s (hF x hx y (mem_drop h2))]
        have e3 : ((i : Int) + 1) = ((i + 1 : Nat) : Int) := by omega
        by_cases hxy : x = y
        · subst hxy
          rw [cnd_f (by simp), cnd_t (ok64_of (by omega) (by omega)), sumK_inr, e3]
          refine ⟨fun h => ih.1 (by injection h), fun h => ih.2 (fun e => h (by rw [e]))⟩
        · rw [cnd_t (by simp [hxy]), sumK_inl]
          exact ⟨fun h => absurd (by injection h) hxy, fun _ => ⟨_, rfl⟩⟩
theorem same_ev (a b : List Form) (hb : nodesL a < big) : Evt fun n => (tb n).same a b = some (decide (a = b)) := by
  have hE : Evt fun n => ∀ x ∈ a, ∀ y ∈ b, (tb n).rEqual x y = some (decide (x = y)) :=
    Evt.all fun x hx => Evt.all fun y hy => requal_ev x y (by have := nodesF_mem hx; rw [nodesF_eq] at this; have := length_le_nodesL x.kids; omega) (fun z hz => by have := nodesF_mem hx; rw [nodesF_eq] at this; have := nodesF_mem hz; omega) (by have := nodesF_mem hx; omega)
  refine Evt.succ ((hE.and (Evt.ge (a.length + 1))).mono fun n hn => ?_)
  show same_c (tb n) n a b some = _
  unfold same_c
  have hl := length_le_nodesL a
  by_cases h4 : a.length = b.length
  · rw [cnd_f (by simp [h4]), opK_s (chk_eq _ _)]
    have hloop := same_loop (tb n) n a b hn.1 h4 (by omega) a b 0 n (by simp) (by simp) (by simp) (by omega)
    by_cases h5 : a = b
    · rw [opK_s (by simpa using hloop.1 h5), sumK_inr]
      simp [h5]
    · obtain ⟨j, hj⟩ := hloop.2 h5
      rw [opK_s (by simpa using hj), sumK_inl]
      simp [h5]
  · rw [cnd_t (by simp; omega)]
    have : ¬ a = b := fun e => h4 (by rw [e])
    simp [this]

/-! ### Lists -/
/-- So many elements may be in a row. -/
def row64 : Nat := 2199023255552
theorem concat_sum (F : Tb) (n : Nat) (p0 : List (List Form)) (hb : p0.flatten.length < big) (hb2 : p0.length < big) :
    ∀ (r : List (List Form)) (i m a : Nat), p0.drop i = r → i + r.length = p0.length → r.length < m → a + r.flatten.length = p0.flatten.length →
      Concat_L601011 F n m p0 p0.length ((a : Int), (i : Int)) = some ((p0.flatten.length : Int), (p0.length : Int))
  | [], i, m, a, h, hl, hm, ha => by
    cases m with
    | zero => simp at hm
    | succ m =>
      simp only [List.length_nil, Nat.add_zero, List.flatten_nil] at hl ha
      simp only [Concat_L601011, Concat_L601011_R]
      rw [cnd_f (by simp; omega), sumK_inl, hl, ha]
  | x :: r, i, m, a, h, hl, hm, ha => by
    obtain ⟨h1, h2, h3⟩ := idx_drop h
    cases m with
    | zero => simp at hm
    | succ m =>
      simp only [List.length_cons] at hl hm
      simp only [List.flatten_cons, List.length_append] at ha
      unfold big at hb hb2
      simp only [Concat_L601011, Concat_L601011_R]
      rw [cnd_t (by simp; omega), opK_s h1, cnd_t (ok64_of (by omega) (by omega)), cnd_f (by simp; omega), cnd_t (ok64_of (by omega) (by omega)), sumK_inr]
      have e1 : ((a : Int) + (x.length : Int)) = ((a + x.length : Nat) : Int) := by omega
      have e3 : ((i : Int) + 1) = ((i + 1 : Nat) : Int) := by omega
      rw [e1, e3]
      exact concat_sum F n p0 (by unfold big; omega) (by unfold big; omega) r (i + 1) m _ h2 (by omega) (by omega) (by omega)
theorem concat_fill (F : Tb) (n : Nat) (p0 : List (List Form)) (hb : p0.flatten.length ≤ row64) (hb2 : p0.length < big) :
    ∀ (r : List (List Form)) (i m : Nat) (d rest : List Form), p0.drop i = r → i + r.length = p0.length → r.length < m → d ++ r.flatten = p0.flatten → rest.length = r.flatten.length →
      Concat_L80101111 F n m p0 p0.length (d.length, (i : Int), d ++ rest) = some (p0.flatten.length, (p0.length : Int), p0.flatten)
  | [], i, m, d, rest, h, hl, hm, ha, hr => by
    cases m with
    | zero => simp at hm
    | succ m =>
      simp only [List.length_nil, Nat.add_zero, List.flatten_nil, List.append_nil] at hl ha hr
      have : rest = [] := List.eq_nil_of_length_eq_zero hr
      subst this
      simp only [Concat_L80101111, Concat_L80101111_R]
      rw [cnd_f (by simp; omega), sumK_inl, hl, List.append_nil, ha]
  | x :: r, i, m, d, rest, h, hl, hm, ha, hr => by
    obtain ⟨h1, h2, h3⟩ := idx_drop h
    cases m with
    | zero => simp at hm
    | succ m =>
      simp only [List.length_cons] at hl hm
      simp only [List.flatten_cons, List.length_append] at hr
      have ht : d.length + (x.length + r.flatten.length) = p0.flatten.length := by rw [← ha]; simp [List.flatten_cons]
      unfold big at hb2
      unfold row64 at hb
      simp only [Concat_L80101111, Concat_L80101111_R]
      rw [cnd_t (by simp; omega), opK_s h1, cnd_t (by simp only [List.length_append, decide_eq_true_eq]; omega), cnd_t (ok64_of (by omega) (by omega)), sumK_inr]
      have e3 : ((i : Int) + 1) = ((i + 1 : Nat) : Int) := by omega
      have e4 : List.take (0 + d.length) (d ++ rest) ++ x ++ List.drop (0 + d.length + x.length) (d ++ rest) = (d ++ x) ++ rest.drop x.length := by
        simp [List.drop_append, Nat.add_sub_cancel_left]
      have e5 : d.length + x.length = (d ++ x).length := by simp
      rw [e3, e4, e5]
      exact concat_fill F n p0 (by unfold row64; omega) (by unfold big; omega) r (i + 1) m (d ++ x) (rest.drop x.length) h2 (by omega) (by omega) (by rw [List.append_assoc, ← List.flatten_cons]; exact ha) (by rw [List.length_drop]; omega)
theorem concat_ev (p0 : List (List Form)) (hb : p0.flatten.length ≤ row64) (hb2 : p0.length < big) (hpos : 0 < p0.flatten.length) : Evt fun n => (tb n).Concat p0 = some p0.flatten := by
  refine Evt.succ ((Evt.ge (p0.length + 1)).mono fun n hn => ?_)
  show Concat_c (tb n) n p0 some = _
  unfold Concat_c
  have h1 := concat_sum (tb n) n p0 (by unfold row64 at hb; unfold big; omega) hb2 p0 0 n 0 (by simp) (by simp) (by omega) (Nat.zero_add _)
  have h1 : Concat_L601011 (tb n) n n p0 p0.length (0, 0) = _ := h1
  have hb' := hb
  unfold row64 at hb
  rw [opK_s (chk_eq _ _), opK_s h1, cnd_f (by simp), cnd_t (ok64_of (by simp only; omega) (by simp only; omega)), cnd_t (by simp only [decide_eq_true_eq, gt_iff_lt]; omega), cnd_t (by simp only [decide_eq_true_eq]; omega), opK_s (chk_eq _ _)]
  have h2 := concat_fill (tb n) n p0 hb' hb2 p0 0 n [] (List.replicate p0.flatten.length (Form.mk 0 [] [] [])) (by simp) (by simp) (by omega) (by simp) (by simp)
  have e1 : ((p0.flatten.length : Int) - 0).toNat = p0.flatten.length := by omega
  simp only [List.length_nil, List.nil_append, Int.natCast_zero] at h2
  rw [e1]
  have h2 : Concat_L80101111 (tb n) n n p0 p0.length (0, 0, List.replicate p0.flatten.length (Form.mk 0 [] [] [])) = _ := h2
  rw [opK_s h2, cnd_t (by simp)]
  simp only [List.drop_zero, List.take_length]
def consF (l : List Form) : Form := .mk 10 [] [] l
def nilF : Form := .mk 1 [78, 73, 76] [67, 79, 77, 77, 79, 78, 45, 76, 73, 83, 80] []
def dottedF (l : List Form) (t : Form) : Form := if l = [] then t else consF (l ++ if t.kind = 10 then t.kids else [t])
def listF (l : List Form) : Form := dottedF l nilF
def spreadF (f : Form) : List Form × Form := if f.kind = 10 ∧ 2 ≤ f.kids.length then (f.kids.dropLast, f.kids.getLastD f) else ([], f)
def isNilF (f : Form) : Bool := decide (f.kind = 1) && (decide (f.text = [78, 73, 76]) && decide (f.home = [67, 79, 77, 77, 79, 78, 45, 76, 73, 83, 80]))
def itemsF (f : Form) : List Form × Bool := if isNilF (spreadF f).2 = true then ((spreadF f).1, true) else ([], false)
theorem dotted_ev (l : List Form) (t : Form) (hb : l.length + t.kids.length < row64) : Evt fun n => (tb n).Dotted l t = some (dottedF l t) := by
  unfold row64 at hb
  by_cases h0 : l = []
  · refine Evt.succ (Evt.now fun n => ?_)
    show Dotted_c (tb n) n l t some = _
    unfold Dotted_c
    rw [cnd_t (by simp [h0]), Form.eta, dottedF, if_pos h0]
  · have hl : 0 < l.length := List.length_pos_iff.2 h0
    refine Evt.succ (((concat_ev [l, t.kids] (by simp [row64]; omega) (by simp [big]) (by simp; omega)).and (concat_ev [l, [t]] (by simp [row64]; omega) (by simp [big]) (by simp))).mono fun n hn => ?_)
    show Dotted_c (tb n) n l t some = _
    unfold Dotted_c
    rw [cnd_f (by simp [h0])]
    by_cases hk : t.kind = 10
    · rw [cnd_t (by simp [hk]), opK_s hn.1, dottedF, if_neg h0, if_pos hk]
      simp [consF]
    · rw [cnd_f (by simp [hk]), Form.eta, opK_s hn.2, dottedF, if_neg h0, if_neg hk]
      simp [consF]
theorem nil_ev : Evt fun n => (tb n).Nil = some nilF := Evt.succ (Evt.succ (Evt.now fun n => rfl))
theorem list_ev (l : List Form) (hb : l.length < row64) : Evt fun n => (tb n).mkList l = some (listF l) := by
  refine Evt.succ ((nil_ev.and (dotted_ev l nilF (by simpa [nilF, Form.kids] using hb))).mono fun n hn => ?_)
  show mkList_c (tb n) n l some = _
  unfold mkList_c
  rw [opK_s hn.1, Form.eta, opK_s hn.2, Form.eta]
  rfl
theorem spread_ev (f : Form) (hb : f.kids.length < row64) : Evt fun n => (tb n).Spread f = some (spreadF f) := by
  refine Evt.succ (Evt.now fun n => ?_)
  show Spread_c (tb n) n f some = _
  unfold Spread_c spreadF
  unfold row64 at hb
  by_cases h1 : f.kind = 10
  · rw [cnd_f (by simp [h1])]
    by_cases h2 : 2 ≤ f.kids.length
    · rw [cnd_f (by simp; omega), cnd_t (ok64_of (by omega) (by omega)), cnd_t (by simp only [decide_eq_true_eq]; omega), cnd_t (by simp only [decide_eq_true_eq]; omega)]
      have e1 : ((f.kids.length : Int) - 1).toNat - 0 = f.kids.length - 1 := by omega
      have e2 : List.take (((f.kids.length : Int) - 1).toNat - 0) (List.drop 0 f.kids) = f.kids.dropLast := by rw [e1, List.drop_zero, List.dropLast_eq_take]
      have hne : f.kids ≠ [] := by intro h; rw [h] at h2; simp at h2
      have e3 : idx f.kids ((f.kids.length : Int) - 1) = some (f.kids.getLastD f) := by
        have : ((f.kids.length : Int) - 1) = ((f.kids.length - 1 : Nat) : Int) := by omega
        rw [this]
        refine idx_get ?_
        rw [List.getLastD_eq_getLast?, List.getLast?_eq_getElem?, List.getElem?_eq_getElem (by omega)]
        rfl
      rw [e2, cnd_t (by simp; omega), cnd_t (ok64_of (by omega) (by omega)), opK_s e3, Form.eta, if_pos ⟨h1, h2⟩]
    · rw [cnd_t (by simp; omega), Form.eta, if_neg (by omega)]
  · rw [cnd_t (by simp [h1]), Form.eta, if_neg (fun h => h1 h.1)]
theorem is_step (F : Tb) (n : Nat) (f : Form) (a b : Bs) : Is_c F n f a b some = some (decide (f.kind = 1) && (decide (f.text = b) && decide (f.home = a))) := by
  unfold Is_c
  by_cases h1 : f.kind = 1
  · rw [cnd_t (by simp [h1])]
    by_cases h2 : f.text = b
    · rw [cnd_t (by simp [h2])]
      by_cases h3 : f.home = a
      · simp [h1, h2, h3]
      · simp [h1, h2, h3]
    · rw [cnd_f (by simp [h2])]; simp [h2]
  · rw [cnd_f (by simp [h1])]; simp [h1]
theorem isnil_ev (f : Form) : Evt fun n => (tb n).IsNil f = some (isNilF f) := by
  refine Evt.succ (Evt.succ (Evt.now fun n => ?_))
  show IsNil_c (tb (n + 1)) (n + 1) f some = _
  unfold IsNil_c
  rw [Form.eta, opK_s (show (tb (n + 1)).Is f _ _ = _ from is_step (tb n) n f _ _)]
  rfl
theorem items_ev (f : Form) (hb : f.kids.length < row64) : Evt fun n => (tb n).Items f = some (itemsF f) := by
  refine Evt.succ (((spread_ev f hb).and (isnil_ev (spreadF f).2)).mono fun n hn => ?_)
  show Items_c (tb n) n f some = _
  unfold Items_c itemsF
  rw [Form.eta, opK_s hn.1, Form.eta, opK_s hn.2]
  by_cases h : isNilF (spreadF f).2 = true
  · rw [cnd_f (by simp [h]), if_pos h]
  · rw [cnd_t (by simpa using h), if_neg h]

/-! ### The reference -/
theorem rdotted1 (F : Tb) (n : Nat) (p0 : List Form) (p1 : Int) (p2 p3 : Bs) (p4 : List Form) (hb : p0.length < row64) :
    ∀ (r : List Form) (i m : Nat) (d : List Form), p0.drop i = r → i + r.length = p0.length → r.length < m → d ++ r = p0 →
      rDotted_L7010111 F n m p0 p1 p2 p3 p4 ((i : Int), d) = some ((p0.length : Int), p0)
  | [], i, m, d, h, hl, hm, hd => by
    cases m with
    | zero => simp at hm
    | succ m =>
      simp only [List.length_nil, Nat.add_zero, List.append_nil] at hl hd
      simp only [rDotted_L7010111, rDotted_L7010111_R]
      rw [cnd_f (by simp; omega), sumK_inl, hl, hd]
  | x :: r, i, m, d, h, hl, hm, hd => by
    obtain ⟨h1, h2, h3⟩ := idx_drop h
    cases m with
    | zero => simp at hm
    | succ m =>
      simp only [List.length_cons] at hl hm
      have ht : d.length + (r.length + 1) = p0.length := by rw [← hd]; simp
      have hb' := hb
      unfold row64 at hb
      simp only [rDotted_L7010111, rDotted_L7010111_R]
      rw [cnd_t (by simp; omega), opK_s h1, cnd_t (by simp; omega), cnd_t (ok64_of (by omega) (by omega)), sumK_inr, Form.eta]
      have e3 : ((i : Int) + 1) = ((i + 1 : Nat) : Int) := by omega
      rw [e3]
      exact rdotted1 F n p0 p1 p2 p3 p4 hb' r (i + 1) m _ h2 (by omega) (by omega) (by rw [← hd]; simp)
theorem rdotted2 (F : Tb) (n : Nat) (p0 : Int) (p1 p2 : Bs) (p3 : List Form) (l0 : List Form) (hb : l0.length + p3.length < row64) :
    ∀ (r : List Form) (i m : Nat) (d : List Form), p3.drop i = r → i + r.length = p3.length → r.length < m → d ++ r = l0 ++ p3 →
      rDotted_L901011111 F n m p0 p1 p2 p3 ((i : Int), d) = some ((p3.length : Int), l0 ++ p3)
  | [], i, m, d, h, hl, hm, hd => by
    cases m with
    | zero => simp at hm
    | succ m =>
      simp only [List.length_nil, Nat.add_zero, List.append_nil] at hl hd
      simp only [rDotted_L901011111, rDotted_L901011111_R]
      rw [cnd_f (by simp; omega), sumK_inl, hl, hd]
  | x :: r, i, m, d, h, hl, hm, hd => by
    obtain ⟨h1, h2, h3⟩ := idx_drop h
    cases m with
    | zero => simp at hm
    | succ m =>
      simp only [List.length_cons] at hl hm
      have ht : d.length + (r.length + 1) = l0.length + p3.length := by
        have := congrArg List.length hd
        simpa using this
      have hb' := hb
      unfold row64 at hb
      simp only [rDotted_L901011111, rDotted_L901011111_R]
      rw [cnd_t (by simp; omega), opK_s h1, cnd_t (by simp; omega), cnd_t (ok64_of (by omega) (by omega)), sumK_inr, Form.eta]
      have e3 : ((i : Int) + 1) = ((i + 1 : Nat) : Int) := by omega
      rw [e3]
      exact rdotted2 F n p0 p1 p2 p3 l0 hb' r (i + 1) m _ h2 (by omega) (by omega) (by rw [← hd]; simp)
theorem rdotted_ev (l : List Form) (t : Form) (hb : l.length + t.kids.length + 1 < row64) : Evt fun n => (tb n).rDotted l t = some (dottedF l t) := by
  refine Evt.succ ((Evt.ge (l.length + t.kids.length + 1)).mono fun n hn => ?_)
  show rDotted_c (tb n) n l t some = _
  unfold rDotted_c dottedF
  by_cases h0 : l = []
  · rw [cnd_t (by simp [h0]), Form.eta, if_pos h0]
  · rw [cnd_f (by simp [h0]), if_neg h0, opK_s (chk_eq _ _)]
    have h1 := rdotted1 (tb n) n l t.kind t.text t.home t.kids (by omega) l 0 n [] (by simp) (by simp) (by omega) (by simp)
    have h1 : rDotted_L7010111 (tb n) n n l t.kind t.text t.home t.kids (0, []) = _ := h1
    rw [opK_s h1]
    by_cases hk : t.kind = 10
    · rw [cnd_f (by simp [hk]), if_pos hk, opK_s (chk_eq _ _)]
      have h2 := rdotted2 (tb n) n t.kind t.text t.home t.kids l (by omega) t.kids 0 n l (by simp) (by simp) (by omega) rfl
      have h2 : rDotted_L901011111 (tb n) n n t.kind t.text t.home t.kids (0, l) = _ := h2
      rw [opK_s h2]
      rfl
    · unfold row64 at hb
      rw [cnd_t (by simp [hk]), if_neg hk, cnd_t (by simp; omega), Form.eta]
      rfl
theorem rnil_ev : Evt fun n => (tb n).rNil = some nilF := Evt.succ (Evt.succ (Evt.now fun n => rfl))
theorem rlist_ev (l : List Form) (hb : l.length + 1 < row64) : Evt fun n => (tb n).rList l = some (listF l) := by
  refine Evt.succ ((rnil_ev.and (rdotted_ev l nilF (by simpa [nilF, Form.kids] using hb))).mono fun n hn => ?_)
  show rList_c (tb n) n l some = _
  unfold rList_c
  rw [opK_s hn.1, Form.eta, opK_s hn.2, Form.eta]
  rfl
theorem rspread1 (F : Tb) (n : Nat) (p0 : Int) (p1 p2 : Bs) (p3 : List Form) (hb : p3.length < row64) (hpos : 0 < p3.length) :
    ∀ (r : List Form) (i m : Nat) (d : List Form), p3.dropLast.drop i = r → i + r.length = p3.dropLast.length → r.length < m → d ++ r = p3.dropLast →
      ∃ j, rSpread_L7010111 F n m p0 p1 p2 p3 ((i : Int), d) = some (j, p3.dropLast)
  | [], i, m, d, h, hl, hm, hd => by
    cases m with
    | zero => simp at hm
    | succ m =>
      simp only [List.length_nil, Nat.add_zero, List.append_nil, List.length_dropLast] at hl hd
      unfold row64 at hb
      simp only [rSpread_L7010111, rSpread_L7010111_R]
      rw [cnd_t (ok64_of (by omega) (by omega)), cnd_f (by simp; omega), sumK_inl, hd]
      exact ⟨_, rfl⟩
  | x :: r, i, m, d, h, hl, hm, hd => by
    obtain ⟨h1, h2, h3⟩ := idx_drop h
    have h1' : idx p3 (i : Int) = some x := by
      have : p3.dropLast[i]? = some x := by unfold idx at h1; rw [if_pos (by omega)] at h1; simpa using h1
      refine idx_get ?_
      rw [List.getElem?_dropLast] at this
      split at this
      · exact this
      · cases this
    cases m with
    | zero => simp at hm
    | succ m =>
      have ht : d.length + (r.length + 1) = p3.dropLast.length := by rw [← hd]; simp
      simp only [List.length_cons, List.length_dropLast] at hl hm h3 ht
      have hb' := hb
      unfold row64 at hb
      simp only [rSpread_L7010111, rSpread_L7010111_R]
      rw [cnd_t (ok64_of (by omega) (by omega)), cnd_t (by simp; omega), opK_s h1', cnd_t (by simp; omega), cnd_t (ok64_of (by omega) (by omega)), sumK_inr, Form.eta]
      have e3 : ((i : Int) + 1) = ((i + 1 : Nat) : Int) := by omega
      rw [e3]
      exact rspread1 F n p0 p1 p2 p3 hb' hpos r (i + 1) m _ h2 (by simp; omega) (by omega) (by rw [← hd]; simp)
theorem rspread_ev (f : Form) (hb : f.kids.length < row64) : Evt fun n => (tb n).rSpread f = some (spreadF f) := by
  refine Evt.succ ((Evt.ge (f.kids.length + 1)).mono fun n hn => ?_)
  show rSpread_c (tb n) n f some = _
  unfold rSpread_c spreadF
  by_cases h1 : f.kind = 10
  · rw [cnd_f (by simp [h1])]
    by_cases h2 : 2 ≤ f.kids.length
    · rw [cnd_f (by simp; omega), opK_s (chk_eq _ _)]
      obtain ⟨j, hj⟩ := rspread1 (tb n) n f.kind f.text f.home f.kids hb (by omega) f.kids.dropLast 0 n [] (by simp) (by simp) (by simp; omega) (by simp)
      have hj : rSpread_L7010111 (tb n) n n f.kind f.text f.home f.kids (0, []) = _ := hj
      unfold row64 at hb
      rw [opK_s hj, cnd_t (ok64_of (by omega) (by omega))]
      have e3 : idx f.kids ((f.kids.length : Int) - 1) = some (f.kids.getLastD f) := by
        have : ((f.kids.length : Int) - 1) = ((f.kids.length - 1 : Nat) : Int) := by omega
        rw [this]
        refine idx_get ?_
        rw [List.getLastD_eq_getLast?, List.getLast?_eq_getElem?, List.getElem?_eq_getElem (by omega)]
        rfl
      rw [opK_s e3, Form.eta, if_pos ⟨h1, h2⟩]
    · rw [cnd_t (by simp; omega), Form.eta, if_neg (by omega)]
  · rw [cnd_t (by simp [h1]), Form.eta, if_neg (fun h => h1 h.1)]
theorem ris_step (F : Tb) (n : Nat) (f : Form) (a b : Bs) : rIs_c F n f a b some = some (decide (f.kind = 1) && (decide (f.text = b) && decide (f.home = a))) := by
  unfold rIs_c
  by_cases h1 : f.kind = 1
  · rw [cnd_t (by simp [h1])]
    by_cases h3 : f.home = a
    · rw [cnd_t (by simp [h3])]
      by_cases h2 : f.text = b
      · simp [h1, h2, h3]
      · simp [h1, h2, h3]
    · rw [cnd_f (by simp [h3])]; simp [h3]
  · rw [cnd_f (by simp [h1])]; simp [h1]
theorem risnil_ev (f : Form) : Evt fun n => (tb n).rIsNil f = some (isNilF f) := by
  refine Evt.succ (Evt.succ (Evt.now fun n => ?_))
  show rIsNil_c (tb (n + 1)) (n + 1) f some = _
  unfold rIsNil_c
  rw [Form.eta, opK_s (show (tb (n + 1)).rIs f _ _ = _ from ris_step (tb n) n f _ _)]
  rfl
theorem ritems_ev (f : Form) (hb : f.kids.length < row64) : Evt fun n => (tb n).rItems f = some (itemsF f) := by
  refine Evt.succ (((rspread_ev f hb).and (risnil_ev (spreadF f).2)).mono fun n hn => ?_)
  show rItems_c (tb n) n f some = _
  unfold rItems_c itemsF
  rw [Form.eta, opK_s hn.1, Form.eta, opK_s hn.2]
  by_cases h : isNilF (spreadF f).2 = true
  · rw [cnd_f (by simp [h]), if_pos h]
  · rw [cnd_t (by simpa using h), if_neg h]
def symF (h t : Bs) : Form := .mk 1 t h []
def cl : Bs := [67, 79, 77, 77, 79, 78, 45, 76, 73, 83, 80]
theorem symbol_ev (h t : Bs) : Evt fun n => (tb n).Symbol h t = some (symF h t) := Evt.succ (Evt.now fun n => rfl)
theorem rsymbol_ev (h t : Bs) : Evt fun n => (tb n).rSymbol h t = some (symF h t) := Evt.succ (Evt.now fun n => rfl)
theorem call_ev (name : Bs) (l : List Form) (hb : l.length + 2 < row64) : Evt fun n => (tb n).Call name l = some (listF (symF cl name :: l)) := by
  refine Evt.succ ((((symbol_ev cl name).and (concat_ev [[symF cl name], l] (by simp [row64] at hb ⊢; omega) (by simp [big]) (by simp))).and (list_ev (symF cl name :: l) (by simp [row64] at hb ⊢; omega))).mono fun n hn => ?_)
  show Call_c (tb n) n name l some = _
  unfold Call_c
  have h1 : (tb n).Symbol [67, 79, 77, 77, 79, 78, 45, 76, 73, 83, 80] name = _ := hn.1.1
  have h2 := hn.1.2
  simp only [List.flatten_cons, List.flatten_nil, List.append_nil, List.singleton_append] at h2
  rw [opK_s h1, Form.eta, opK_s h2, opK_s hn.2, Form.eta]
theorem rcall1 (F : Tb) (n : Nat) (p0 : List Form) (p1 : Int) (p2 p3 : Bs) (e : List Form) (hb : e.length + p0.length < row64) :
    ∀ (r : List Form) (i m : Nat) (d : List Form), p0.drop i = r → i + r.length = p0.length → r.length < m → d ++ r = e ++ p0 →
      ∃ j, rCall_L601011 F n m p0 p1 p2 p3 ((i : Int), d) = some (j, e ++ p0)
  | [], i, m, d, h, hl, hm, hd => by
    cases m with
    | zero => simp at hm
    | succ m =>
      simp only [List.length_nil, Nat.add_zero, List.append_nil] at hl hd
      simp only [rCall_L601011, rCall_L601011_R]
      rw [cnd_f (by simp; omega), sumK_inl, hd]
      exact ⟨_, rfl⟩
  | x :: r, i, m, d, h, hl, hm, hd => by
    obtain ⟨h1, h2, h3⟩ := idx_drop h
    cases m with
    | zero => simp at hm
    | succ m =>
      simp only [List.length_cons] at hl hm
      have ht : d.length + (r.length + 1) = e.length + p0.length := by
        have := congrArg List.length hd
        simpa using this
      have hb' := hb
      unfold row64 at hb
      simp only [rCall_L601011, rCall_L601011_R]
      rw [cnd_t (by simp; omega), opK_s h1, cnd_t (by simp; omega), cnd_t (ok64_of (by omega) (by omega)), sumK_inr, Form.eta]
      have e3 : ((i : Int) + 1) = ((i + 1 : Nat) : Int) := by omega
      rw [e3]
      exact rcall1 F n p0 p1 p2 p3 e hb' r (i + 1) m _ h2 (by omega) (by omega) (by rw [List.append_assoc]; exact hd)
theorem rcall_ev (name : Bs) (l : List Form) (hb : l.length + 3 < row64) : Evt fun n => (tb n).rCall name l = some (listF (symF cl name :: l)) := by
  refine Evt.succ ((((rsymbol_ev cl name).and (rlist_ev (symF cl name :: l) (by simp [row64] at hb ⊢; omega))).and (Evt.ge (l.length + 1))).mono fun n hn => ?_)
  show rCall_c (tb n) n name l some = _
  unfold rCall_c
  have h1 : (tb n).rSymbol [67, 79, 77, 77, 79, 78, 45, 76, 73, 83, 80] name = _ := hn.1.1
  rw [opK_s h1, Form.eta, opK_s (chk_eq _ _)]
  cases l with
  | nil =>
    have h2 : rCall_L601011p (tb n) n [] [symF cl name] 0 0 [] [] = some (.inr ()) := by
      unfold rCall_L601011p rCall_L601011p_R
      rw [cnd_f (by simp)]
    rw [opK_s h2, sumK_inr, opK_s hn.1.2, Form.eta]
  | cons x l =>
    have h2 : rCall_L601011p (tb n) n (x :: l) [symF cl name] 0 0 [] [] = some (.inl (1, [symF cl name, x])) := by
      unfold rCall_L601011p rCall_L601011p_R
      rw [cnd_t (by simp), opK_s (show idx (x :: l) 0 = some x from rfl), cnd_t (by simp), cnd_t (by rfl), Form.eta]
      rfl
    rw [opK_s h2, sumK_inl, opK_s (chk_eq _ _)]
    simp only [List.length_cons] at hb
    obtain ⟨j, hj⟩ := rcall1 (tb n) n (x :: l) 0 [] [] [symF cl name] (by simp; omega) l 1 n [symF cl name, x] (by simp) (by simp; omega) (by have := hn.2; simp at this; omega) (by simp)
    have hj : rCall_L601011 (tb n) n n (x :: l) 0 [] [] (1, [symF cl name, x]) = _ := hj
    rw [opK_s hj]
    simp only [List.singleton_append]
    rw [opK_s hn.1.2, Form.eta]
end Go.Proofs.YtpdgbhjhodhkiaaGreatDoor.AI
/- The plain laws FormSpreads and FormLists. -/
set_option linter.unnecessarySimpa false
set_option linter.unusedVariables false
set_option linter.unusedSimpArgs false
namespace Go.Proofs.YtpdgbhjhodhkiaaGreatDoor.AI
open Go Go.Proofs

theorem awake_ev : Evt fun n => (tb n).awakeTrees = some true := Evt.succ (Evt.now fun n => rfl)
theorem few100 (f : Form) : Evt fun n => (tb n).Few f 100 = some (decide (nodesF f ≤ 100)) := few_ev f 100 (by decide)
theorem few200 (f : Form) : Evt fun n => (tb n).Few f 200 = some (decide (nodesF f ≤ 200)) := few_ev f 200 (by decide)
theorem spreads1 (F : Tb) (n : Nat) (p0 p1 : List Form) (p3 : Int) (p4 p5 : Bs) (p6 : List Form) (hw : F.awakeTrees = some true)
    (hF : ∀ x ∈ p0, F.Few x 100 = some (decide (nodesF x ≤ 100))) (hS : ∀ x ∈ p0, nodesF x ≤ 100 → F.Size x = some ((nodesF x : Int), (depthF x : Int))) :
    ∀ (r : List Form) (i m a : Nat), p0.drop i = r → i + r.length = p0.length → r.length < m → a ≤ 100 * i + 1 → p0.length ≤ 30 →
      (∃ u v, FormSpreads_L7010111 F n m p0 p1 p0.length p3 p4 p5 p6 ((a : Int), (i : Int)) = some (.inl (true, u, v))) ∨
      (FormSpreads_L7010111 F n m p0 p1 p0.length p3 p4 p5 p6 ((a : Int), (i : Int)) = some (.inr (((a + nodesL r : Nat) : Int), (p0.length : Int))) ∧ ∀ x ∈ r, nodesF x ≤ 100)
  | [], i, m, a, h, hl, hm, ha, hb => by
    cases m with
    | zero => simp at hm
    | succ m =>
      simp only [List.length_nil, Nat.add_zero] at hl
      right
      simp only [FormSpreads_L7010111, FormSpreads_L7010111_R]
      rw [cnd_f (by simp; omega), sumK_inl, hl]
      exact ⟨by simp [nodesL], fun x hx => by cases hx⟩
  | x :: r, i, m, a, h, hl, hm, ha, hb => by
    obtain ⟨h1, h2, h3⟩ := idx_drop h
    cases m with
    | zero => simp at hm
    | succ m =>
      simp only [List.length_cons] at hl hm
      have hx := mem_drop h
      simp only [FormSpreads_L7010111, FormSpreads_L7010111_R]
      rw [cnd_t (by simp; omega), opK_s h1, Form.eta, opK_s (hF x hx)]
      by_cases hn : nodesF x ≤ 100
      · rw [cnd_f (by simp [hn]), opK_s (hS x hx hn), cnd_t (ok64_of (by omega) (by omega)), cnd_t (ok64_of (by omega) (by omega)), sumK_inr]
        have e1 : ((a : Int) + (nodesF x : Int)) = ((a + nodesF x : Nat) : Int) := by omega
        have e3 : ((i : Int) + 1) = ((i + 1 : Nat) : Int) := by omega
        rw [e1, e3]
        rcases spreads1 F n p0 p1 p3 p4 p5 p6 hw hF hS r (i + 1) m (a + nodesF x) h2 (by omega) (by omega) (by omega) hb with ⟨u, v, h⟩ | ⟨h, h'⟩
        · exact .inl ⟨u, v, h⟩
        · right
          refine ⟨by rw [h]; simp only [nodesL, Nat.add_assoc], fun y hy => ?_⟩
          rcases List.mem_cons.1 hy with rfl | hy
          · exact hn
          · exact h' y hy
      · rw [cnd_t (by simp; omega), opK_s hw, sumK_inl]
        exact .inl ⟨_, _, rfl⟩
theorem spreads2 (F : Tb) (n : Nat) (p0 p1 : List Form) (p2 p4 : Int) (p5 p6 : Bs) (p7 : List Form) (hw : F.awakeTrees = some true)
    (hF : ∀ x ∈ p1, F.Few x 100 = some (decide (nodesF x ≤ 100))) :
    ∀ (r : List Form) (i m : Nat), p1.drop i = r → i + r.length = p1.length → r.length < m → p1.length ≤ 30 →
      (∃ u, FormSpreads_L80101111 F n m p0 p1 p2 p1.length p4 p5 p6 p7 (i : Int) = some (.inl (true, u))) ∨
      ((∃ u, FormSpreads_L80101111 F n m p0 p1 p2 p1.length p4 p5 p6 p7 (i : Int) = some (.inr u)) ∧ ∀ x ∈ r, nodesF x ≤ 100)
  | [], i, m, h, hl, hm, hb => by
    cases m with
    | zero => simp at hm
    | succ m =>
      simp only [List.length_nil, Nat.add_zero] at hl
      right
      simp only [FormSpreads_L80101111, FormSpreads_L80101111_R]
      rw [cnd_f (by simp; omega), sumK_inl]
      exact ⟨⟨_, rfl⟩, fun x hx => by cases hx⟩
  | x :: r, i, m, h, hl, hm, hb => by
    obtain ⟨h1, h2, h3⟩ := idx_drop h
    cases m with
    | zero => simp at hm
    | succ m =>
      simp only [List.length_cons] at hl hm
      have hx := mem_drop h
      simp only [FormSpreads_L80101111, FormSpreads_L80101111_R]
      rw [cnd_t (by simp; omega), opK_s h1, Form.eta, opK_s (hF x hx)]
      by_cases hn : nodesF x ≤ 100
      · rw [cnd_f (by simp [hn]), cnd_t (ok64_of (by omega) (by omega)), sumK_inr]
        have e3 : ((i : Int) + 1) = ((i + 1 : Nat) : Int) := by omega
        rw [e3]
        rcases spreads2 F n p0 p1 p2 p4 p5 p6 p7 hw hF r (i + 1) m h2 (by omega) (by omega) hb with ⟨u, h⟩ | ⟨⟨u, h⟩, h'⟩
        · exact .inl ⟨u, h⟩
        · right
          refine ⟨⟨u, h⟩, fun y hy => ?_⟩
          rcases List.mem_cons.1 hy with rfl | hy
          · exact hn
          · exact h' y hy
      · rw [cnd_t (by simp; omega), opK_s hw, sumK_inl]
        exact .inl ⟨_, rfl⟩
theorem lists1 (F : Tb) (n : Nat) (p0 : List Form) (p1 : Bs) (p3 : Int) (p4 p5 : Bs) (p6 : List Form) (hw : F.awakeTrees = some true)
    (hF : ∀ x ∈ p0, F.Few x 200 = some (decide (nodesF x ≤ 200))) :
    ∀ (r : List Form) (i m : Nat), p0.drop i = r → i + r.length = p0.length → r.length < m → p0.length ≤ 40 →
      (∃ u, FormLists_L601011 F n m p0 p1 p0.length p3 p4 p5 p6 (i : Int) = some (.inl (true, u))) ∨
      ((∃ u, FormLists_L601011 F n m p0 p1 p0.length p3 p4 p5 p6 (i : Int) = some (.inr u)) ∧ ∀ x ∈ r, nodesF x ≤ 200)
  | [], i, m, h, hl, hm, hb => by
    cases m with
    | zero => simp at hm
    | succ m =>
      simp only [List.length_nil, Nat.add_zero] at hl
      right
      simp only [FormLists_L601011, FormLists_L601011_R]
      rw [cnd_f (by simp; omega), sumK_inl]
      exact ⟨⟨_, rfl⟩, fun x hx => by cases hx⟩
  | x :: r, i, m, h, hl, hm, hb => by
    obtain ⟨h1, h2, h3⟩ := idx_drop h
    cases m with
    | zero => simp at hm
    | succ m =>
      simp only [List.length_cons] at hl hm
      have hx := mem_drop h
      simp only [FormLists_L601011, FormLists_L601011_R]
      rw [cnd_t (by simp; omega), opK_s h1, Form.eta, opK_s (hF x hx)]
      by_cases hn : nodesF x ≤ 200
      · rw [cnd_f (by simp [hn]), cnd_t (ok64_of (by omega) (by omega)), sumK_inr]
        have e3 : ((i : Int) + 1) = ((i + 1 : Nat) : Int) := by omega
        rw [e3]
        rcases lists1 F n p0 p1 p3 p4 p5 p6 hw hF r (i + 1) m h2 (by omega) (by omega) hb with ⟨u, h⟩ | ⟨⟨u, h⟩, h'⟩
        · exact .inl ⟨u, h⟩
        · right
          refine ⟨⟨u, h⟩, fun y hy => ?_⟩
          rcases List.mem_cons.1 hy with rfl | hy
          · exact hn
          · exact h' y hy
      · rw [cnd_t (by simp; omega), opK_s hw, sumK_inl]
        exact .inl ⟨_, rfl⟩

/-! ### Facts on lists -/
theorem dotted_kids (l : List Form) (t : Form) : (dottedF l t).kids.length ≤ l.length + t.kids.length + 1 := by
  unfold dottedF
  split
  · omega
  · split <;> simp [consF, Form.kids]
theorem nodesL_le (l : List Form) (k : Nat) (h : ∀ x ∈ l, nodesF x ≤ k) : nodesL l ≤ k * l.length := by
  induction l with
  | nil => simp [nodesL]
  | cons x l ih =>
    have := h x (by simp)
    have := ih fun y hy => h y (by simp [hy])
    simp only [nodesL, List.length_cons, Nat.mul_succ]
    omega
theorem dotted_nodes (l : List Form) (t : Form) : nodesF (dottedF l t) ≤ nodesL l + nodesF t + 1 := by
  unfold dottedF
  split
  · omega
  · rw [nodesF_eq]
    split
    · have h1 := nodesF_eq t
      show 1 + nodesL (l ++ t.kids) ≤ _
      rw [nodesL_app]
      omega
    · simp only [consF, Form.kids, nodesL_app, nodesL]
      omega
theorem spread_dotted (l : List Form) (t : Form) (h0 : l ≠ []) (hk : t.kind ≠ 10) : spreadF (dottedF l t) = (l, t) := by
  unfold dottedF spreadF
  rw [if_neg h0, if_neg hk]
  have := List.length_pos_iff.2 h0
  rw [if_pos ⟨rfl, by simp [consF, Form.kids]; omega⟩]
  simp [consF, Form.kids]
theorem items_list (l : List Form) (h0 : l ≠ []) : itemsF (listF l) = (l, true) := by
  unfold itemsF listF
  rw [spread_dotted l nilF h0 (by simp [nilF, Form.kind])]
  rfl
theorem dotted_kind (l : List Form) (t : Form) (h0 : l ≠ []) : (dottedF l t).kind = 10 := by
  unfold dottedF
  rw [if_neg h0]
  rfl
theorem dotted_twice (l m : List Form) (t : Form) : dottedF l (dottedF m t) = dottedF (l ++ m) t := by
  by_cases hl : l = []
  · subst hl; simp [dottedF]
  · by_cases hm : m = []
    · subst hm; simp [dottedF]
    · have h1 : ¬ (l ++ m = []) := by simp [hl]
      have h2 := dotted_kind m t hm
      unfold dottedF at h2 ⊢
      rw [if_neg hm] at h2 ⊢
      rw [if_neg hl, if_neg h1, if_pos h2]
      simp [consF, Form.kids]
theorem formSpreads_law (l m : List Form) (t : Form) : Evt fun n => (tb n).FormSpreads l m t = some true := by
  by_cases hl : l.length ≤ 30
  rotate_left
  · refine Evt.succ (awake_ev.mono fun n hn => ?_)
    show FormSpreads_c (tb n) n l m t some = _
    unfold FormSpreads_c
    rw [cnd_t (by simp; omega), opK_s hn]
  by_cases hm : m.length ≤ 30
  rotate_left
  · refine Evt.succ (awake_ev.mono fun n hn => ?_)
    show FormSpreads_c (tb n) n l m t some = _
    unfold FormSpreads_c
    rw [cnd_f (by simp; omega), cnd_t (by simp; omega), opK_s hn]
  by_cases hl1 : 1 ≤ l.length
  rotate_left
  · refine Evt.succ (awake_ev.mono fun n hn => ?_)
    show FormSpreads_c (tb n) n l m t some = _
    unfold FormSpreads_c
    rw [cnd_f (by simp; omega), cnd_f (by simp; omega), cnd_t (by simp; omega), opK_s hn]
  by_cases ht : nodesF t ≤ 100
  rotate_left
  · refine Evt.succ ((awake_ev.and (few100 t)).mono fun n hn => ?_)
    show FormSpreads_c (tb n) n l m t some = _
    unfold FormSpreads_c
    rw [cnd_f (by simp; omega), cnd_f (by simp; omega), cnd_f (by simp; omega), Form.eta, opK_s hn.2, cnd_t (by simp; omega), opK_s hn.1]
  have hne : l ≠ [] := fun h => by rw [h] at hl1; simp at hl1
  have htk := length_le_nodesL t.kids
  have htn := nodesF_eq t
  -- what is called
  have E1 : Evt fun n => ∀ x ∈ l, (tb n).Few x 100 = some (decide (nodesF x ≤ 100)) := Evt.all fun x _ => few100 x
  have E2 : Evt fun n => ∀ x ∈ l, nodesF x ≤ 100 → (tb n).Size x = some ((nodesF x : Int), (depthF x : Int)) := Evt.all fun x _ => by
    by_cases h : nodesF x ≤ 100
    · exact (size_ev x (by unfold big; omega)).mono fun n hn _ => hn
    · exact Evt.now fun n hn => absurd hn h
  have E3 : Evt fun n => ∀ x ∈ m, (tb n).Few x 100 = some (decide (nodesF x ≤ 100)) := Evt.all fun x _ => few100 x
  have E4 := list_ev l (by unfold row64; omega)
  have hlk := dotted_kids l nilF
  have hnk : nilF.kids.length = 0 := rfl
  have E5 := items_ev (listF l) (by unfold listF row64; omega)
  have E7 := dotted_ev m t (by unfold row64; omega)
  have hmk := dotted_kids m t
  have E8 := dotted_ev l (dottedF m t) (by unfold row64; omega)
  have E9 := dotted_ev (l ++ m) t (by rw [List.length_append]; unfold row64; omega)
  have E11 := dotted_ev l t (by unfold row64; omega)
  have hltk := dotted_kids l t
  have E12 := spread_ev (dottedF l t) (by unfold row64; omega)
  by_cases hsl : ∀ x ∈ l, nodesF x ≤ 100
  rotate_left
  · refine Evt.succ ((((((awake_ev.and (few100 t)).and E1).and E2).and (Evt.ge (l.length + 1))).and (Evt.ge (m.length + 1))).mono fun n hn => ?_)
    obtain ⟨⟨⟨⟨⟨hw, hf⟩, h1⟩, h2⟩, hg⟩, hg2⟩ := hn
    show FormSpreads_c (tb n) n l m t some = _
    unfold FormSpreads_c
    rw [cnd_f (by simp; omega), cnd_f (by simp; omega), cnd_f (by simp; omega), Form.eta, opK_s hf, cnd_f (by simp; omega), opK_s (chk_eq _ _)]
    rcases spreads1 (tb n) n l m t.kind t.text t.home t.kids hw h1 h2 l 0 n 1 (by simp) (by simp) (by omega) (by omega) hl with ⟨u, v, h⟩ | ⟨h, h'⟩
    · have h : FormSpreads_L7010111 (tb n) n n l m l.length t.kind t.text t.home t.kids (1, 0) = _ := h
      rw [opK_s h, sumK_inl]
    · exact absurd h' hsl
  have hnl := nodesL_le l 100 hsl
  have E6 := size_ev (listF l) (by have := dotted_nodes l nilF; have : nodesF nilF = 1 := rfl; unfold listF big; omega)
  have E10 := same_ev l l (by unfold big; omega)
  by_cases hsm : ∀ x ∈ m, nodesF x ≤ 100
  rotate_left
  · refine Evt.succ ((((((awake_ev.and (few100 t)).and E1).and E2).and (Evt.ge (l.length + m.length + 1))).and E3).mono fun n hn => ?_)
    obtain ⟨⟨⟨⟨⟨hw, hf⟩, h1⟩, h2⟩, hg⟩, h3⟩ := hn
    show FormSpreads_c (tb n) n l m t some = _
    unfold FormSpreads_c
    rw [cnd_f (by simp; omega), cnd_f (by simp; omega), cnd_f (by simp; omega), Form.eta, opK_s hf, cnd_f (by simp; omega), opK_s (chk_eq _ _)]
    rcases spreads1 (tb n) n l m t.kind t.text t.home t.kids hw h1 h2 l 0 n 1 (by simp) (by simp) (by omega) (by omega) hl with ⟨u, v, h⟩ | ⟨h, h'⟩
    · have h : FormSpreads_L7010111 (tb n) n n l m l.length t.kind t.text t.home t.kids (1, 0) = _ := h
      rw [opK_s h, sumK_inl]
    · have h : FormSpreads_L7010111 (tb n) n n l m l.length t.kind t.text t.home t.kids (1, 0) = _ := h
      rw [opK_s h, sumK_inr, opK_s (chk_eq _ _)]
      rcases spreads2 (tb n) n l m ((1 + nodesL l : Nat) : Int) t.kind t.text t.home t.kids hw h3 m 0 n (by simp) (by simp) (by omega) hm with ⟨u, h⟩ | ⟨_, h'⟩
      · have h : FormSpreads_L80101111 (tb n) n n l m ((1 + nodesL l : Nat) : Int) m.length t.kind t.text t.home t.kids 0 = _ := h
        rw [opK_s h, sumK_inl]
      · exact absurd h' hsm
  have hnm := nodesL_le m 100 hsm
  have hd1 := dotted_nodes l (dottedF m t)
  have hd2 := dotted_nodes m t
  have E13 := equal_ev (dottedF l (dottedF m t)) (dottedF (l ++ m) t) (by unfold big; omega)
  have E14 := equal_ev t t (by unfold big; omega)
  refine Evt.succ ((((((((((((((((awake_ev.and (few100 t)).and E1).and E2).and (Evt.ge (l.length + m.length + 1))).and E3).and E4).and E5).and E6).and E7).and E8).and E9).and E10).and E11).and E12).and (E13.and E14)).mono fun n hn => ?_)
  obtain ⟨⟨⟨⟨⟨⟨⟨⟨⟨⟨⟨⟨⟨⟨⟨hw, hf⟩, h1⟩, h2⟩, hg⟩, h3⟩, h4⟩, h5⟩, h6⟩, h7⟩, h8⟩, h9⟩, h10⟩, h11⟩, h12⟩, h13, h14⟩ := hn
  show FormSpreads_c (tb n) n l m t some = _
  unfold FormSpreads_c
  rw [cnd_f (by simp; omega), cnd_f (by simp; omega), cnd_f (by simp; omega), Form.eta, opK_s hf, cnd_f (by simp; omega), opK_s (chk_eq _ _)]
  rcases spreads1 (tb n) n l m t.kind t.text t.home t.kids hw h1 h2 l 0 n 1 (by simp) (by simp) (by omega) (by omega) hl with ⟨u, v, h⟩ | ⟨h, h'⟩
  · have h : FormSpreads_L7010111 (tb n) n n l m l.length t.kind t.text t.home t.kids (1, 0) = _ := h
    rw [opK_s h, sumK_inl]
  have h : FormSpreads_L7010111 (tb n) n n l m l.length t.kind t.text t.home t.kids (1, 0) = _ := h
  rw [opK_s h, sumK_inr, opK_s (chk_eq _ _)]
  rcases spreads2 (tb n) n l m ((1 + nodesL l : Nat) : Int) t.kind t.text t.home t.kids hw h3 m 0 n (by simp) (by simp) (by omega) hm with ⟨u, h⟩ | ⟨⟨u, h⟩, h'⟩
  · have h : FormSpreads_L80101111 (tb n) n n l m ((1 + nodesL l : Nat) : Int) m.length t.kind t.text t.home t.kids 0 = _ := h
    rw [opK_s h, sumK_inl]
  have h : FormSpreads_L80101111 (tb n) n n l m ((1 + nodesL l : Nat) : Int) m.length t.kind t.text t.home t.kids 0 = _ := h
  have hnodes : nodesF (listF l) = 1 + nodesL l + 1 := by
    unfold listF dottedF
    rw [if_neg hne, nodesF_eq, if_neg (by simp [nilF, Form.kind])]
    simp only [consF, Form.kids, nodesL_app, nodesL]
    have : nodesF nilF = 1 := rfl
    omega
  rw [items_list l hne] at h5
  rw [opK_s h, sumK_inr, opK_s h4, Form.eta, opK_s h5, opK_s h4, Form.eta, opK_s h6, cnd_f (by simp), opK_s h10, cnd_f (by simp), cnd_t (ok64_of (by simp only; omega) (by simp only; omega)), cnd_f (by rw [hnodes]; simp), cnd_t (by simp; omega), cnd_t (by simp; omega)]
  rw [opK_s h7, Form.eta, opK_s h8, opK_s h9, Form.eta, Form.eta, opK_s h13, cnd_f (by simp [dotted_twice])]
  by_cases hk : t.kind = 10
  · rw [cnd_t (by simp [hk]), opK_s hw]
  · rw [spread_dotted l t hne hk] at h12
    rw [cnd_f (by simp [hk]), opK_s h11, Form.eta, opK_s h12, opK_s h10, cnd_t (by simp), Form.eta, opK_s h14, cnd_t (by simp), opK_s hw]
theorem formLists_law (l : List Form) (t : Form) (name : Bs) : Evt fun n => (tb n).FormLists l t name = some true := by
  by_cases hl : l.length ≤ 40
  rotate_left
  · refine Evt.succ (awake_ev.mono fun n hn => ?_)
    show FormLists_c (tb n) n l t name some = _
    unfold FormLists_c
    rw [cnd_t (by simp; omega), opK_s hn]
  by_cases ht : nodesF t ≤ 200
  rotate_left
  · refine Evt.succ ((awake_ev.and (few200 t)).mono fun n hn => ?_)
    show FormLists_c (tb n) n l t name some = _
    unfold FormLists_c
    rw [cnd_f (by simp; omega), Form.eta, opK_s hn.2, cnd_t (by simp; omega), opK_s hn.1]
  have htk := length_le_nodesL t.kids
  have htn := nodesF_eq t
  have E1 : Evt fun n => ∀ x ∈ l, (tb n).Few x 200 = some (decide (nodesF x ≤ 200)) := Evt.all fun x _ => few200 x
  by_cases hsl : ∀ x ∈ l, nodesF x ≤ 200
  rotate_left
  · refine Evt.succ ((((awake_ev.and (few200 t)).and E1).and (Evt.ge (l.length + 1))).mono fun n hn => ?_)
    obtain ⟨⟨⟨hw, hf⟩, h1⟩, hg⟩ := hn
    show FormLists_c (tb n) n l t name some = _
    unfold FormLists_c
    rw [cnd_f (by simp; omega), Form.eta, opK_s hf, cnd_f (by simp; omega), opK_s (chk_eq _ _)]
    rcases lists1 (tb n) n l name t.kind t.text t.home t.kids hw h1 l 0 n (by simp) (by simp) (by omega) hl with ⟨u, h⟩ | ⟨_, h'⟩
    · have h : FormLists_L601011 (tb n) n n l name l.length t.kind t.text t.home t.kids 0 = _ := h
      rw [opK_s h, sumK_inl]
    · exact absurd h' hsl
  have hnl := nodesL_le l 200 hsl
  have hnn : nodesF nilF = 1 := rfl
  have hnk : nilF.kids.length = 0 := rfl
  have hdk := dotted_kids l t
  have hdn := dotted_nodes l t
  have hln := dotted_nodes l nilF
  have hcn := dotted_nodes (symF cl name :: l) nilF
  have hsn : nodesL (symF cl name :: l) = 1 + nodesL l := rfl
  have small : ∀ f : Form, nodesF f ≤ 20000 → f.kids.length < big ∧ (∀ x ∈ f.kids, nodesF x < big) ∧ nodesF f < big := by
    intro f hf
    have h1 := length_le_nodesL f.kids
    have h2 := nodesF_eq f
    refine ⟨by unfold big; omega, fun x hx => ?_, by unfold big; omega⟩
    have := nodesF_mem hx
    unfold big; omega
  have eqv : ∀ f g : Form, nodesF f ≤ 20000 → Evt fun n => (tb n).rEqual f g = some (decide (f = g)) := fun f g hf => requal_ev f g (small f hf).1 (small f hf).2.1 (small f hf).2.2
  have hsp : nodesL (spreadF (dottedF l t)).1 ≤ nodesF (dottedF l t) ∧ nodesF (spreadF (dottedF l t)).2 ≤ nodesF (dottedF l t) := by
    unfold spreadF
    split
    · rename_i hc
      generalize dottedF l t = d at hc
      have h1 := nodesF_eq d
      have hne : d.kids ≠ [] := by intro h; rw [h] at hc; simp at hc
      have h2 : nodesL d.kids = nodesL d.kids.dropLast + nodesF (d.kids.getLast hne) := by
        conv => lhs; rw [← List.dropLast_concat_getLast hne]
        rw [nodesL_app]; simp [nodesL]
      have h3 : d.kids.getLastD d = d.kids.getLast hne := by
        rw [List.getLastD_eq_getLast?, List.getLast?_eq_some_getLast hne]; rfl
      simp only [h3]
      omega
    · simp [nodesL]
  have hit : nodesL (itemsF (dottedF l t)).1 ≤ nodesF (dottedF l t) := by
    unfold itemsF
    split
    · exact hsp.1
    · simp [nodesL]
  have E2 := rdotted_ev l t (by unfold row64; omega)
  have E3 := spread_ev (dottedF l t) (by unfold row64; omega)
  have E4 := rspread_ev (dottedF l t) (by unfold row64; omega)
  have E5 := items_ev (dottedF l t) (by unfold row64; omega)
  have E6 := ritems_ev (dottedF l t) (by unfold row64; omega)
  have E7 := list_ev l (by unfold row64; omega)
  have E8 := rlist_ev l (by unfold row64; omega)
  have E9 := eqv (listF l) (listF l) (by unfold listF; omega)
  have E10 := dotted_ev l t (by unfold row64; omega)
  have E11 := eqv (dottedF l t) (dottedF l t) (by omega)
  have E12 := call_ev name l (by unfold row64; omega)
  have E13 := rcall_ev name l (by unfold row64; omega)
  have E14 := eqv (listF (symF cl name :: l)) (listF (symF cl name :: l)) (by unfold listF; omega)
  have E15 := same_ev (spreadF (dottedF l t)).1 (spreadF (dottedF l t)).1 (by unfold big; omega)
  have E16 := eqv (spreadF (dottedF l t)).2 (spreadF (dottedF l t)).2 (by omega)
  have E17 := same_ev (itemsF (dottedF l t)).1 (itemsF (dottedF l t)).1 (by unfold big; omega)
  refine Evt.succ (((((awake_ev.and (few200 t)).and E1).and (Evt.ge (l.length + 1))).and ((((E2.and E3).and (E4.and E5)).and ((E6.and E7).and (E8.and E9))).and (((E10.and E11).and (E12.and E13)).and ((E14.and E15).and (E16.and E17))))).mono fun n hn => ?_)
  obtain ⟨⟨⟨⟨hw, hf⟩, h1⟩, hg⟩, (⟨⟨⟨h2, h3⟩, h4, h5⟩, ⟨h6, h7⟩, h8, h9⟩), ⟨⟨h10, h11⟩, h12, h13⟩, ⟨h14, h15⟩, h16, h17⟩ := hn
  show FormLists_c (tb n) n l t name some = _
  unfold FormLists_c
  rw [cnd_f (by simp; omega), Form.eta, opK_s hf, cnd_f (by simp; omega), opK_s (chk_eq _ _)]
  rcases lists1 (tb n) n l name t.kind t.text t.home t.kids hw h1 l 0 n (by simp) (by simp) (by omega) hl with ⟨u, h⟩ | ⟨⟨u, h⟩, h'⟩
  · have h : FormLists_L601011 (tb n) n n l name l.length t.kind t.text t.home t.kids 0 = _ := h
    rw [opK_s h, sumK_inl]
  have h : FormLists_L601011 (tb n) n n l name l.length t.kind t.text t.home t.kids 0 = _ := h
  rw [opK_s h, sumK_inr, opK_s h2, Form.eta, opK_s h3, opK_s h4, opK_s h5, opK_s h6, opK_s h7, opK_s h8, Form.eta, opK_s h9, cnd_t (by simp), opK_s h10, Form.eta, opK_s h11, cnd_t (by simp), opK_s h12, opK_s h13, Form.eta, opK_s h14, cnd_t (by simp),
    opK_s h15, cnd_t (by simp), Form.eta, opK_s h16, cnd_t (by simp), opK_s h17, cnd_t (by simp), cnd_t (by simp), opK_s hw]
end Go.Proofs.YtpdgbhjhodhkiaaGreatDoor.AI
