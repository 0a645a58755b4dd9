/- Functions with a bound on their steps, and without one. -/
import Derived.Test.YtpdgbhjhodhkiaaGreatDoorXD
set_option linter.unusedVariables false
set_option linter.unusedSimpArgs false
set_option linter.unnecessarySimpa false
namespace Go.Proofs.YtpdgbhjhodhkiaaGreatDoor.AI
open Go
def Mle {R : Type} (x y : Option R) : Prop := ∀ r, x = some r → y = some r
section
variable {R X Y : Type}
theorem Mle.rfl' {x : Option R} : Mle x x := fun _ h => h
theorem Mle.trans {x y z : Option R} (h : Mle x y) (k : Mle y z) : Mle x z := fun r e => k r (h r e)
theorem Mle.none {x : Option R} : Mle Option.none x := fun _ h => by cases h
theorem Mle.cnd {b : Bool} {x y x' y' : Option R} (h : Mle x x') (k : Mle y y') : Mle (cnd b x y) (cnd b x' y') := by
 cases b
 ·exact k
 ·exact h
theorem Mle.opK {o o' : Option X} {k k' : X → Option R} (h : Mle o o') (g : ∀ x, Mle (k x) (k' x)) : Mle (opK o k) (opK o' k') := by
 intro r e
 cases o with
 | none => cases e
 | some x => rw [h x rfl]; exact g x r e
theorem Mle.sumK {s : X ⊕ Y} {f f' : X → Option R} {g g' : Y → Option R} (h : ∀ x, Mle (f x) (f' x)) (k : ∀ y, Mle (g y) (g' y)) : Mle (sumK s f g) (sumK s f' g') := by
 cases s with
 | inl x => exact h x
 | inr y => exact k y
def Evt (p : Nat → Prop) : Prop := ∃ N, ∀ n, N ≤ n → p n
theorem Evt.now {p : Nat → Prop} (h : ∀ n, p n) : Evt p := ⟨0, fun n _ => h n⟩
theorem Evt.mono {p q : Nat → Prop} (h : Evt p) (k : ∀ n, p n → q n) : Evt q := by
 obtain ⟨N, h⟩ := h
 exact ⟨N, fun n hn => k n (h n hn)⟩
theorem Evt.and {p q : Nat → Prop} (h : Evt p) (k : Evt q) : Evt fun n => p n ∧ q n := by
 obtain ⟨N, h⟩ := h
 obtain ⟨M, k⟩ := k
 exact ⟨max N M, fun n hn => ⟨h n (by omega), k n (by omega)⟩⟩
theorem Evt.ex {p : Nat → Prop} (h : Evt p) : ∃ n, p n := by
 obtain ⟨N, h⟩ := h
 exact ⟨N, h N (Nat.le_refl _)⟩
def Rel (φ : Nat → Option R) (x : Option R) : Prop := (∀ n, Mle (φ n) x) ∧ ∀ r, x = some r → Evt fun n => φ n = some r
theorem Rel.const {x : Option R} : Rel (fun _ => x) x := ⟨fun _ => Mle.rfl', fun _ h => Evt.now fun _ => h⟩
theorem Rel.cnd {b : Bool} {φ ψ : Nat → Option R} {x y : Option R} (h : Rel φ x) (k : Rel ψ y) : Rel (fun n => AI.cnd b (φ n) (ψ n)) (AI.cnd b x y) := by
 cases b
 ·exact k
 ·exact h
theorem Rel.opK {o : Nat → Option X} {O : Option X} {k : Nat → X → Option R} {K : X → Option R} (h : Rel o O) (g : ∀ x, Rel (fun n => k n x) (K x)) : Rel (fun n => AI.opK (o n) (k n)) (AI.opK O K) := by
 refine ⟨fun n => Mle.opK (h.1 n) fun x => (g x).1 n, fun r e => ?_⟩
 cases O with
 | none => cases e
 | some x =>
  refine ((h.2 x rfl).and ((g x).2 r e)).mono fun n hn => ?_
  show AI.opK (o n) (k n) = some r
  rw [hn.1]
  exact hn.2
theorem Rel.sumK {s : X ⊕ Y} {f : Nat → X → Option R} {F : X → Option R} {g : Nat → Y → Option R} {G : Y → Option R} (h : ∀ x, Rel (fun n => f n x) (F x)) (k : ∀ y, Rel (fun n => g n y) (G y)) : Rel (fun n => AI.sumK s (f n) (g n)) (AI.sumK s F G) := by
 cases s with
 | inl x => exact h x
 | inr y => exact k y
theorem Rel.uniq {φ : Nat → Option R} {x y : Option R} (h : Rel φ x) (k : Rel φ y) : x = y := by
 cases x with
 | some r =>
  obtain ⟨n, hn⟩ := (h.2 r rfl).ex
  exact (k.1 n r hn).symm
 | none =>
  cases y with
  | none => rfl
  | some r =>
   obtain ⟨n, hn⟩ := (k.2 r rfl).ex
   have := h.1 n r hn
   cases this
theorem Rel.squeeze {φ ψ : Nat → Option R} {x : Option R} (h : Rel φ x) (a : ∀ n, Mle (φ n) (ψ n)) (b : ∀ n, Mle (ψ n) x) : Rel ψ x :=
 ⟨b, fun r e => (h.2 r e).mono fun n hn => a n r hn⟩
theorem Rel.shift {φ : Nat → Option R} {x : Option R} (h : Rel (fun n => φ (n + 1)) x) (h0 : φ 0 = none) : Rel φ x := by
 refine ⟨fun n => ?_, fun r e => ?_⟩
 ·cases n with
  | zero => rw [h0]; exact Mle.none
  | succ n => exact h.1 n
 ·obtain ⟨N, hN⟩ := h.2 r e
  exact ⟨N + 1, fun n hn => by
   cases n with
   | zero => omega
   | succ n => exact hN n (by omega)⟩
open Classical in
noncomputable def sup (φ : Nat → Option R) : Option R := if h : ∃ r n, φ n = some r then some h.choose else none
theorem mono_of_step {φ : Nat → Option R} (h : ∀ n, Mle (φ n) (φ (n + 1))) : ∀ {n m : Nat}, n ≤ m → Mle (φ n) (φ m) := by
 intro n m hnm
 induction hnm with
 | refl => exact Mle.rfl'
 | step _ ih => exact ih.trans (h _)
theorem rel_sup {φ : Nat → Option R} (h : ∀ n, Mle (φ n) (φ (n + 1))) : Rel φ (sup φ) := by
 have hm : ∀ {n m : Nat}, n ≤ m → Mle (φ n) (φ m) := fun hnm => mono_of_step h hnm
 by_cases hx : ∃ r n, φ n = some r
 ·have hs : sup φ = some hx.choose := by unfold sup; rw [dif_pos hx]
  obtain ⟨n0, hn0⟩ := hx.choose_spec
  rw [hs]
  refine ⟨fun n r e => ?_, fun r e => ?_⟩
  ·have h1 := hm (Nat.le_max_left n n0) r e
   have h2 := hm (Nat.le_max_right n n0) _ hn0
   rw [h1] at h2
   exact h2.symm
  ·injection e with e
   subst e
   exact ⟨n0, fun n hn => hm hn _ hn0⟩
 ·have hs : sup φ = none := by unfold sup; rw [dif_neg hx]
  rw [hs]
  exact ⟨fun n r e => absurd ⟨r, n, e⟩ hx, fun r e => by cases e⟩
theorem Rel.along {φ : Nat → Option R} {x : Option R} (h : Rel φ x) (hm : ∀ n, Mle (φ n) (φ (n + 1))) {σ : Nat → Nat} (hσ : ∀ n, n ≤ σ n) : Rel (fun n => φ (σ n)) x :=
 h.squeeze (fun n => mono_of_step hm (hσ n)) (fun n => h.1 _)
end
theorem Rel.chk {T : Nat → Type} {R : Type} {c : Code} {st : WSt T} {φ : Nat → Option R} {x : Option R} (h : Rel φ x) : Rel (fun n => AI.opK (chk c st) fun _ => φ n) x := by
 rw [chk_eq]; exact h
theorem Rel.chkP {T : Nat → Type} {R : Type} {ws : List (W T)} {wm : WM T} {φ : Nat → Option R} {x : Option R} (h : Rel φ x) : Rel (fun n => AI.opK (chkP ws ws wm wm) fun _ => φ n) x := by
 rw [chkP_eq]; exact h
section
variable {R X Y : Type}
theorem cnd_t {b : Bool} {x y : Option R} (h : b = true) : cnd b x y = x := by rw [h]; rfl
theorem cnd_f {b : Bool} {x y : Option R} (h : b = false) : cnd b x y = y := by rw [h]; rfl
theorem opK_s {o : Option X} {x : X} {k : X → Option R} (h : o = some x) : opK o k = k x := by rw [h]; rfl
theorem opK_some' {x : X} {k : X → Option R} : opK (some x) k = k x := rfl
theorem sumK_inl {x : X} {f : X → Option R} {g : Y → Option R} : sumK (.inl x) f g = f x := rfl
theorem sumK_inr {y : Y} {f : X → Option R} {g : Y → Option R} : sumK (.inr y) f g = g y := rfl
theorem ok64_of {n : Int} (h1 : -9223372036854775808 ≤ n) (h2 : n ≤ 9223372036854775807) : ok64 n = true := by simp [ok64, h1, h2]
theorem idx_get {l : List X} {i : Nat} {x : X} (h : l[i]? = some x) : idx l (i : Int) = some x := by
 unfold idx
 rw [if_pos (by omega)]
 simpa using h
theorem idx_drop {l r : List X} {x : X} {i : Nat} (h : l.drop i = x :: r) : idx l (i : Int) = some x ∧ l.drop (i + 1) = r ∧ i < l.length := by
 have hi : i < l.length := by
  apply Nat.lt_of_not_le
  intro hle
  rw [List.drop_eq_nil_of_le hle] at h
  cases h
 rw [List.drop_eq_getElem_cons hi] at h
 injection h with h1 h2
 exact ⟨idx_get (by rw [List.getElem?_eq_getElem hi, h1]), h2, hi⟩
theorem mem_drop {l r : List X} {x : X} {i : Nat} (h : l.drop i = x :: r) : x ∈ l := by
 have : x ∈ l.drop i := by rw [h]; simp
 exact List.mem_of_mem_drop this
end
end Go.Proofs.YtpdgbhjhodhkiaaGreatDoor.AI
namespace Go.Proofs.YtpdgbhjhodhkiaaGreatDoor.AI
open Go
def iterL {V O : Type} (R : V → (O ⊕ V → Option O) → Option O) : Nat → V → Option O
 | 0, _ => none
 | m + 1, v => R v fun x => sumK x some (iterL R m)
theorem iterL_mono {V O : Type} {R R' : V → (O ⊕ V → Option O) → Option O} (h : ∀ v {K K' : O ⊕ V → Option O}, (∀ x, Mle (K x) (K' x)) → Mle (R v K) (R' v K')) : ∀ {m m' : Nat}, m ≤ m' → ∀ v, Mle (iterL R m v) (iterL R' m' v)
 | 0, m', _, v => Mle.none
 | m + 1, m', hm, v => by
  obtain ⟨k, rfl⟩ : ∃ k, m' = k + 1 := ⟨m' - 1, by omega⟩
  exact h v fun x => Mle.sumK (fun _ => Mle.rfl') fun v' => iterL_mono h (by omega) v'
theorem iterL_eq {V O : Type} {R : Nat → V → (O ⊕ V → Option O) → Option O} {Rw : V → (O ⊕ V → Option O) → Option O} {L : V → Option O} (hL : ∀ v, Rel (fun n => iterL (R n) n v) (L v))
  (hm : ∀ {a b : Nat}, a ≤ b → ∀ v {K K' : O ⊕ V → Option O}, (∀ x, Mle (K x) (K' x)) → Mle (R a v K) (R b v K'))
  (hr : ∀ v {K : Nat → O ⊕ V → Option O} {Kw : O ⊕ V → Option O}, (∀ x, Rel (fun n => K n x) (Kw x)) → Rel (fun n => R (n + 1) v (K n)) (Rw v Kw)) (v : V) : L v = Rw v fun x => sumK x some L := by
 refine (hL v).uniq (Rel.shift ?_ rfl)
 show Rel (fun n => R (n + 1) v fun x => sumK x some (iterL (R (n + 1)) n)) _
 refine hr v fun x => Rel.sumK (fun _ => Rel.const) fun v' => ?_
 refine (hL v').squeeze (fun n => iterL_mono (hm (Nat.le_succ n)) (Nat.le_refl n) v') fun n => ?_
 exact (iterL_mono (hm (Nat.le_refl (n + 1))) (Nat.le_succ n) v').trans ((hL v').1 (n + 1))
theorem rel_unstep {X : Type} {φ ψ : Nat → Option X} {x : Option X} (h : Rel φ x) (he : ∀ n, φ (n + 1) = ψ n) : Rel ψ x := by
 refine ⟨fun n r e => h.1 (n + 1) r (by rw [he]; exact e), fun r e => ?_⟩
 obtain ⟨N, hN⟩ := h.2 r e
 exact ⟨N, fun n hn => (he n).symm.trans (hN (n + 1) (by omega))⟩
variable {T : Nat → Type} {cfg : Cfg} {wc : WCfg T}
theorem loop_sd {V O : Type} {c : Code} {p : List Nat} {q : Prep} (ok : CodOk wc.C) {I : WI T (Ex × WSt T)} (io : IOk cfg wc.C I) (S : V → WSt T) (E : O → Ex × WSt T) (hE : ∀ o, (E o).1 ≠ .normal) (R1 : V → Option (O ⊕ V)) (RO : V → (O ⊕ V → Option O) → Option O)
  (par : ∀ v K, RO v K = opK (R1 v) K) (round : ∀ v x, R1 v = some x → roundWK cfg wc (inlN cfg wc 6 I) c p q (S v) some = some (stepE E S x)) :
  ∀ m v o, iterL RO m v = some o → LoopSaid cfg wc.C (.loop c) (S v) (E o) :=
 loop_gen S E hE R1 (fun m v => iterL RO m v) (fun v x h => by
  obtain ⟨y, h1, h2⟩ := roundWK_sound ok (inlN_ok ok io 6) (round v x h)
  injection h1 with h1
  rw [← h1]
  exact @h2) (fun v => rfl) (fun m v => par v _)
theorem peel_sd {c : Code} {p : List Nat} {q : Prep} (ok : CodOk wc.C) {I : WI T (Ex × WSt T)} (io : IOk cfg wc.C I) {st : WSt T} {x : Ex × WSt T} (h : roundWK cfg wc (inlN cfg wc 6 I) c p q st some = some x) : RoundSaid cfg wc.C c st x := by
 obtain ⟨y, h1, h2⟩ := roundWK_sound ok (inlN_ok ok io 6) h
 injection h1 with h1
 rw [← h1]
 exact @h2
theorem heap_sd {f : FuncId} {rs : List Nat} (ok : CodOk wc.C) {I : WI T (List (W T) × WM T)} (io : IOk cfg wc.C I) {ws : List (W T)} {wm : WM T} {x : List (W T) × WM T} {w : W T}
  (h : (heapWK cfg wc (inlN cfg wc 6 I) f ws wm fun x => opK (canR wc.C rs x) fun x => some ([x.1], x.2)) = some x) (hw : x.1 = [w]) : HeapSaid cfg wc.C f ws wm w x.2 := by
 obtain ⟨w', wm', h1, h2⟩ := heap_of ok (inlN_ok ok io 6) (k := fun x => some ([x.1], x.2)) h
 injection h1 with h1
 rw [← h1] at hw ⊢
 injection hw with hw
 subst hw
 exact @h2
end Go.Proofs.YtpdgbhjhodhkiaaGreatDoor.AI
namespace Go.Proofs.YtpdgbhjhodhkiaaGreatDoor.AI
open Go
theorem cnd_nt {R : Type} {x y : Option R} : cnd (!true) x y = y := rfl
theorem cnd_nf {R : Type} {x y : Option R} : cnd (!false) x y = x := rfl
theorem cnd_tt {R : Type} {x y : Option R} : cnd true x y = x := rfl
theorem cnd_ff {R : Type} {x y : Option R} : cnd false x y = y := rfl
theorem idx0 {X : Type} {x : X} {l : List X} : idx (x :: l) 0 = some x := rfl
theorem idx1 {X : Type} {x y : X} {l : List X} : idx (x :: y :: l) 1 = some y := rfl
theorem all_from {X O1 O2 : Type} {l : List X} {L : Int → Option (O1 ⊕ O2)} {R : Int → ((O1 ⊕ O2) ⊕ Int → Option (O1 ⊕ O2)) → Option (O1 ⊕ O2)} (hL : ∀ v, L v = R v fun x => sumK x some L) (p : X → Bool)
  (step : ∀ (i : Nat) x, l[i]? = some x → idx l (i : Int) = some x → i < l.length → ∀ K, (p x = true → R i K = K (.inr ((i + 1 : Nat) : Int))) ∧ (p x = false → ∃ o, R i K = K (.inl (.inl o))))
  (stop : ∀ K, ∃ o, R l.length K = K (.inl (.inr o))) :
  ∀ (r : List X) (i : Nat), l.drop i = r → i + r.length = l.length → (r.all p = true → ∃ o, L i = some (.inr o)) ∧ (r.all p = false → ∃ o, L i = some (.inl o))
 | [], i, h, hl => by
  simp only [List.length_nil, Nat.add_zero] at hl
  subst hl
  obtain ⟨o, ho⟩ := stop fun x => sumK x some L
  refine ⟨fun _ => ⟨o, by rw [hL, ho]; rfl⟩, fun h => by simp at h⟩
 | x :: r, i, h, hl => by
  obtain ⟨h1, h2, h3⟩ := idx_drop h
  have h4 : l[i]? = some x := by
   have : (l.drop i)[0]? = some x := by rw [h]; rfl
   simpa using this
  obtain ⟨s1, s2⟩ := step i x h4 h1 h3 fun x => sumK x some L
  simp only [List.length_cons] at hl
  obtain ⟨i1, i2⟩ := all_from hL p step stop r (i + 1) h2 (by omega)
  cases hp : p x with
  | true =>
   have e : L i = L ((i + 1 : Nat) : Int) := by rw [hL, s1 hp]; rfl
   rw [e]
   simp only [List.all_cons, hp, Bool.true_and]
   exact ⟨i1, i2⟩
  | false =>
   obtain ⟨o, ho⟩ := s2 hp
   refine ⟨fun h => by simp [hp] at h, fun _ => ⟨o, by rw [hL, ho]; rfl⟩⟩
theorem all_loop {X O1 O2 : Type} {l : List X} {L : Int → Option (O1 ⊕ O2)} {R : Int → ((O1 ⊕ O2) ⊕ Int → Option (O1 ⊕ O2)) → Option (O1 ⊕ O2)} (hL : ∀ v, L v = R v fun x => sumK x some L) (p : X → Bool)
  (step : ∀ (i : Nat) x, l[i]? = some x → idx l (i : Int) = some x → i < l.length → ∀ K, (p x = true → R i K = K (.inr ((i + 1 : Nat) : Int))) ∧ (p x = false → ∃ o, R i K = K (.inl (.inl o))))
  (stop : ∀ K, ∃ o, R l.length K = K (.inl (.inr o))) : (l.all p = true ∧ ∃ o, L 0 = some (.inr o)) ∨ (l.all p = false ∧ ∃ o, L 0 = some (.inl o)) := by
 obtain ⟨h1, h2⟩ := all_from hL p step stop l 0 (by simp) (by simp)
 cases h : l.all p with
 | true => exact .inl ⟨rfl, h1 h⟩
 | false => exact .inr ⟨rfl, h2 h⟩
end Go.Proofs.YtpdgbhjhodhkiaaGreatDoor.AI
