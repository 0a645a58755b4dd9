/- The data of the forms: cells. -/
import Derived.Test.YtpdgbhjhodhkiaaGreatDoorY0
set_option linter.unnecessarySimpa false
set_option linter.unusedVariables false
set_option linter.unusedSimpArgs false
namespace Go.Proofs.YtpdgbhjhodhkiaaGreatDoor.AI
open Go

mutual
def FormR : Form → List V → Prop
  | .mk a b c l, cs => ∃ kc fl, cs = [.int .i64 a, .str ⟨b.toArray⟩, .str ⟨c.toArray⟩, .ro kc l.length fl] ∧ FormRL l kc
def FormRL : List Form → List V → Prop
  | [], cs => cs = []
  | x :: l, cs => ∃ c1 c2, cs = c1 ++ c2 ∧ FormR x c1 ∧ FormRL l c2
end
def IntRL : List Int → List V → Prop
  | [], cs => cs = []
  | x :: l, cs => ∃ c1 c2, cs = c1 ++ c2 ∧ c1 = [.int .i64 x] ∧ IntRL l c2
def GRL {X : Type} (Q : X → List V → Prop) : List X → List V → Prop
  | [], cs => cs = []
  | x :: l, cs => ∃ c1 c2, cs = c1 ++ c2 ∧ Q x c1 ∧ GRL Q l c2
def FRow (l : List Form) (cs : List V) : Prop := ∃ kc fl, cs = [.ro kc l.length fl] ∧ FormRL l kc
def crC : (k : Nat) → T k → List V → Prop
  | 0, (n : Int), cs => cs = [.int .i64 n]
  | 1, (b : UInt8), cs => cs = [.int .u8 b.toNat]
  | 2, (s : Bs), cs => cs = [.str ⟨s.toArray⟩]
  | 3, (f : Form), cs => FormR f cs
  | 4, (b : Bool), cs => cs = [.bool b]
  | 5, (p : Bs × Bs), cs => cs = [.str ⟨p.1.toArray⟩, .str ⟨p.2.toArray⟩]
  | 6, (f : Node), cs => ∃ kc fl, cs = [.int .i64 f.kind, .str ⟨f.text.toArray⟩, .str ⟨f.home.toArray⟩, .ro kc f.kids.length fl] ∧ IntRL f.kids kc
  | 7, (l : List Form), cs => FRow l cs
  | 8, (l : List (List Form)), cs => ∃ kc fl, cs = [.ro kc l.length fl] ∧ GRL FRow l kc
  | _ + 9, _, _ => False
def cod : Cod T := { size := sizeC, isAgg := aggC, out := outC, inn := innC, CR := crC, keq := keqC, kok := kokC, bytes := bytesC, unbytes := unbytesC }
theorem crl3 : ∀ {l : List Form} {cs : List V}, CRL cod 3 l cs ↔ FormRL l cs
  | [], cs => by simp only [CRL, FormRL]
  | x :: l, cs => by
    simp only [CRL, FormRL]
    constructor
    · rintro ⟨c1, c2, h, h1, h2⟩; exact ⟨c1, c2, h, h1, crl3.1 h2⟩
    · rintro ⟨c1, c2, h, h1, h2⟩; exact ⟨c1, c2, h, h1, crl3.2 h2⟩
theorem crl0 : ∀ {l : List Int} {cs : List V}, CRL cod 0 l cs ↔ IntRL l cs
  | [], cs => by simp only [CRL, IntRL]
  | x :: l, cs => by
    simp only [CRL, IntRL]
    constructor
    · rintro ⟨c1, c2, h, h1, h2⟩; exact ⟨c1, c2, h, h1, crl0.1 h2⟩
    · rintro ⟨c1, c2, h, h1, h2⟩; exact ⟨c1, c2, h, h1, crl0.2 h2⟩
theorem crl7 : ∀ {l : List (List Form)} {cs : List V}, CRL cod 7 l cs ↔ GRL FRow l cs
  | [], cs => by simp only [CRL, GRL]
  | x :: l, cs => by
    simp only [CRL, GRL]
    constructor
    · rintro ⟨c1, c2, h, h1, h2⟩; exact ⟨c1, c2, h, h1, crl7.1 h2⟩
    · rintro ⟨c1, c2, h, h1, h2⟩; exact ⟨c1, c2, h, h1, crl7.2 h2⟩
theorem rowOf_rep {k : Nat} {w : W T} {l : List (T k)} (h : rowOf k w = some l) {α β v} (hr : Rep cod α β w v) : ∃ cs fl, v = .ro cs l.length fl ∧ CRL cod k l cs := by
  unfold rowOf at h
  split at h
  · rename_i k' l' full
    split at h
    · rename_i e
      subst e
      injection h with h
      subst h
      simp only [Rep] at hr
      obtain ⟨cs, fl, h1, _, h2⟩ := hr
      exact ⟨cs, fl, h1, h2⟩
    · cases h
  · injection h with h
    subst h
    simp only [Rep] at hr
    exact ⟨[], true, hr, rfl⟩
  · cases h
theorem repL4 {α β} {a b c d : W T} {vs : List V} (h : RepL cod α β [a, b, c, d] vs) : ∃ x y z u, vs = [x, y, z, u] ∧ Rep cod α β a x ∧ Rep cod α β b y ∧ Rep cod α β c z ∧ Rep cod α β d u := by
  simp only [RepL] at h
  obtain ⟨x, _, rfl, h1, y, _, rfl, h2, z, _, rfl, h3, u, _, rfl, h4, rfl⟩ := h
  exact ⟨x, y, z, u, rfl, h1, h2, h3, h4⟩
theorem repL1 {α β} {a : W T} {vs : List V} (h : RepL cod α β [a] vs) : ∃ x, vs = [x] ∧ Rep cod α β a x := by
  simp only [RepL] at h
  obtain ⟨x, _, rfl, h1, rfl⟩ := h
  exact ⟨x, rfl, h1⟩
theorem repL2 {α β} {a b : W T} {vs : List V} (h : RepL cod α β [a, b] vs) : ∃ x y, vs = [x, y] ∧ Rep cod α β a x ∧ Rep cod α β b y := by
  simp only [RepL] at h
  obtain ⟨x, _, rfl, h1, y, _, rfl, h2, rfl⟩ := h
  exact ⟨x, y, rfl, h1, h2⟩
theorem inn_ok : ∀ k (ws : List (W T)) (x : T k), innC k ws = some x → ∀ α β cs, RepL cod α β ws cs → crC k x cs := by
  intro k ws x h α β cs hr
  match k, x, h with
  | 0, (n : Int), h =>
    have h : in0 ws = some n := h
    unfold in0 at h
    split at h
    · injection h with h
      subst h
      obtain ⟨v, rfl, h1⟩ := repL1 hr
      simp only [Rep] at h1; subst h1
      rfl
    · cases h
  | 1, (n : UInt8), h =>
    have h : in1 ws = some n := h
    unfold in1 at h
    split at h
    · split at h
      · rename_i hn
        injection h with h
        subst h
        obtain ⟨v, rfl, h1⟩ := repL1 hr
        simp only [Rep] at h1; subst h1
        simp only [crC]
        rw [← hn]
      · cases h
    · cases h
  | 2, (n : Bs), h =>
    have h : in2 ws = some n := h
    unfold in2 at h
    split at h
    · injection h with h
      subst h
      obtain ⟨v, rfl, h1⟩ := repL1 hr
      simp only [Rep] at h1; subst h1
      rfl
    · cases h
  | 3, (n : Form), h =>
    have h : in3 ws = some n := h
    unfold in3 at h
    split at h
    · obtain ⟨l, h0, rfl⟩ := Option.map_eq_some_iff.1 h
      obtain ⟨v1, v2, v3, v4, rfl, h1, h2, h3, h4⟩ := repL4 hr
      simp only [Rep] at h1 h2 h3
      subst h1 h2 h3
      obtain ⟨cs, fl, rfl, hc⟩ := rowOf_rep h0 h4
      show FormR _ _
      simp only [FormR]
      exact ⟨cs, fl, rfl, crl3.1 hc⟩
    · cases h
  | 4, (n : Bool), h =>
    have h : in4 ws = some n := h
    unfold in4 at h
    split at h
    · injection h with h
      subst h
      obtain ⟨v, rfl, h1⟩ := repL1 hr
      simp only [Rep] at h1; subst h1
      rfl
    · cases h
  | 5, (n : Bs × Bs), h =>
    have h : in5 ws = some n := h
    unfold in5 at h
    split at h
    · injection h with h
      subst h
      obtain ⟨v, v2, rfl, h1, h2⟩ := repL2 hr
      simp only [Rep] at h1 h2; subst h1 h2
      rfl
    · cases h
  | 6, (n : Node), h =>
    have h : in6 ws = some n := h
    unfold in6 at h
    split at h
    · obtain ⟨l, h0, rfl⟩ := Option.map_eq_some_iff.1 h
      obtain ⟨v1, v2, v3, v4, rfl, h1, h2, h3, h4⟩ := repL4 hr
      simp only [Rep] at h1 h2 h3
      subst h1 h2 h3
      obtain ⟨cs, fl, rfl, hc⟩ := rowOf_rep h0 h4
      exact ⟨cs, fl, rfl, crl0.1 hc⟩
    · cases h
  | 7, (n : List Form), h =>
    have h : in7 ws = some n := h
    match ws, h with
    | [w], h =>
      obtain ⟨v, e, h1⟩ := repL1 hr
      obtain ⟨kc, fl, e2, hc⟩ := rowOf_rep h h1
      rw [e, e2]
      exact ⟨kc, fl, rfl, crl3.1 hc⟩
  | 8, (n : List (List Form)), h =>
    have h : in8 ws = some n := h
    match ws, h with
    | [w], h =>
      obtain ⟨v, e, h1⟩ := repL1 hr
      obtain ⟨kc, fl, e2, hc⟩ := rowOf_rep h h1
      rw [e, e2]
      exact ⟨kc, fl, rfl, crl7.1 hc⟩
  | _ + 9, _, h => cases h
theorem out_ok : ∀ k (x : T k) (cs : List V), crC k x cs → ∀ α β, RepL cod α β (outC k x) cs := by
  intro k x cs h α β
  match k, x, h with
  | 0, (n : Int), h => simp only [crC] at h; subst h; exact RepL.cons (by simp only [Rep]) RepL.nil
  | 1, (b : UInt8), h => simp only [crC] at h; subst h; exact RepL.cons (by simp only [Rep]) RepL.nil
  | 2, (s : Bs), h => simp only [crC] at h; subst h; exact RepL.cons (by simp only [Rep]) RepL.nil
  | 3, (.mk a b c l : Form), h =>
    simp only [crC, FormR] at h
    obtain ⟨kc, fl, rfl, hk⟩ := h
    refine RepL.cons (by simp only [Rep]; rfl) (RepL.cons (by simp only [Rep]; rfl) (RepL.cons (by simp only [Rep]; rfl) (RepL.cons ?_ RepL.nil)))
    simp only [Rep]
    exact ⟨kc, fl, rfl, (fun e => by cases e), crl3.2 hk⟩
  | 4, (b : Bool), h => simp only [crC] at h; subst h; exact RepL.cons (by simp only [Rep]) RepL.nil
  | 5, (p : Bs × Bs), h => simp only [crC] at h; subst h; exact RepL.cons (by simp only [Rep]) (RepL.cons (by simp only [Rep]) RepL.nil)
  | 6, (f : Node), h =>
    simp only [crC] at h
    obtain ⟨kc, fl, rfl, hk⟩ := h
    refine RepL.cons (by simp only [Rep]) (RepL.cons (by simp only [Rep]) (RepL.cons (by simp only [Rep]) (RepL.cons ?_ RepL.nil)))
    simp only [Rep]
    exact ⟨kc, fl, rfl, (fun e => by cases e), crl0.2 hk⟩
  | 7, (l : List Form), h =>
    simp only [crC, FRow] at h
    obtain ⟨kc, fl, rfl, hk⟩ := h
    refine RepL.cons ?_ RepL.nil
    simp only [Rep]
    exact ⟨kc, fl, rfl, (fun e => by cases e), crl3.2 hk⟩
  | 8, (l : List (List Form)), h =>
    simp only [crC] at h
    obtain ⟨kc, fl, rfl, hk⟩ := h
    refine RepL.cons ?_ RepL.nil
    simp only [Rep]
    exact ⟨kc, fl, rfl, (fun e => by cases e), crl7.2 hk⟩
theorem all_ok : ∀ k (x : T k) (cs : List V), crC k x cs → cs.length = sizeC k ∧ pureL cs = true ∧ cs.all V.cellLike = true := by
  intro k x cs h
  match k, x, h with
  | 0, (n : Int), h => simp only [crC] at h; subst h; exact ⟨rfl, rfl, rfl⟩
  | 1, (b : UInt8), h => simp only [crC] at h; subst h; exact ⟨rfl, rfl, rfl⟩
  | 2, (s : Bs), h => simp only [crC] at h; subst h; exact ⟨rfl, rfl, rfl⟩
  | 3, (.mk a b c l : Form), h => simp only [crC, FormR] at h; obtain ⟨kc, fl, rfl, h⟩ := h; exact ⟨rfl, rfl, rfl⟩
  | 4, (b : Bool), h => simp only [crC] at h; subst h; exact ⟨rfl, rfl, rfl⟩
  | 5, (p : Bs × Bs), h => simp only [crC] at h; subst h; exact ⟨rfl, rfl, rfl⟩
  | 6, (f : Node), h => simp only [crC] at h; obtain ⟨kc, fl, rfl, h⟩ := h; exact ⟨rfl, rfl, rfl⟩
  | 7, (l : List Form), h => simp only [crC, FRow] at h; obtain ⟨kc, fl, rfl, h⟩ := h; exact ⟨rfl, rfl, rfl⟩
  | 8, (l : List (List Form)), h => simp only [crC] at h; obtain ⟨kc, fl, rfl, h⟩ := h; exact ⟨rfl, rfl, rfl⟩
theorem beq_mk (a b : Bs) : ((ByteArray.mk a.toArray) == (ByteArray.mk b.toArray)) = (a == b) := by
  show (a.toArray == b.toArray) = (a == b)
  simp
theorem key_ok : ∀ (P : Program) (d : TypeDesc) k (x y : T k) (cx cy : List V), kokC P d k = true → crC k x cx → crC k y cy →
    keyEq P d (if aggC k then .agg cx else cx.headD .undef) (if aggC k then .agg cy else cy.headD .undef) = some (keqC k x y) ∧ keyOk P d (if aggC k then .agg cx else cx.headD .undef) = true := by
  intro P d k x y cx cy hk hx hy
  match k, x, y, hx, hy with
  | 0, (a : Int), (b : Int), hx, hy =>
    simp only [crC] at hx hy; subst hx hy
    unfold kokC at hk
    split at hk <;> first | (cases hk; done) | skip
    · exact ⟨rfl, rfl⟩
    all_goals simp_all
  | 2, (a : Bs), (b : Bs), hx, hy =>
    simp only [crC] at hx hy; subst hx hy
    unfold kokC at hk
    split at hk <;> first | (cases hk; done) | skip
    · simp_all
    · refine ⟨?_, rfl⟩
      show some (_ == _) = _
      rw [beq_mk]
      rfl
    all_goals simp_all
  | 5, (a : Bs × Bs), (b : Bs × Bs), hx, hy =>
    simp only [crC] at hx hy; subst hx hy
    unfold kokC at hk
    split at hk <;> first | (cases hk; done) | skip
    · simp_all
    · simp_all
    · rename_i e
      split at hk
      · rename_i h1 h2
        simp only [aggC, if_true, keyEq, keyOk, h1, h2, keqC, beq_mk]
        exact ⟨by first | rfl | trivial, by first | rfl | trivial⟩
      · cases hk
    all_goals simp_all
  | 1, x, y, hx, hy | 3, x, y, hx, hy | 4, x, y, hx, hy | 6, x, y, hx, hy | 7, x, y, hx, hy | _ + 8, x, y, hx, hy => simp [kokC] at hk
theorem bytes_crl : ∀ (s : Bs), CRL cod 1 s (s.map fun b => .int .u8 b.toNat)
  | [] => rfl
  | b :: s => ⟨[.int .u8 b.toNat], _, rfl, rfl, bytes_crl s⟩
theorem unbytes_crl : ∀ (s : Bs) (cs : List V), CRL cod 1 s cs → u8sOf cs = some (s.map fun b => (b.toNat : Int))
  | [], cs, h => by simp only [CRL] at h; subst h; rfl
  | b :: s, cs, h => by
    obtain ⟨c1, c2, rfl, h1, h2⟩ := h
    have h1 : c1 = [.int .u8 b.toNat] := h1
    subst h1
    simp only [List.singleton_append, u8sOf, unbytes_crl s c2 h2, Option.map_some, List.map_cons]
theorem codOk : CodOk cod where
  pos := fun k => by
    show 0 < sizeC k
    unfold sizeC
    split <;> omega
  len := fun k x cs h => (all_ok k x cs h).1
  pure := fun k x cs h => (all_ok k x cs h).2.1
  cell := fun k x cs h => (all_ok k x cs h).2.2
  one := fun k h => by
    have h : aggC k = false := h
    show sizeC k = 1
    unfold aggC at h
    unfold sizeC
    split at h <;> first | (cases h; done) | skip
    all_goals first | rfl | (split <;> simp_all)
  out := fun k x cs h α β => out_ok k x cs h α β
  inn := fun k ws x h α β cs hr => inn_ok k ws x h α β cs hr
  key := fun P d k x y cx cy hk hx hy => key_ok P d k x y cx cy hk hx hy
  bytes := fun k s l h => by
    have h : bytesC k s = some l := h
    unfold bytesC at h
    split at h
    · injection h with h
      subst h
      exact ⟨rfl, bytes_crl _, rfl⟩
    · cases h
  unbytes := fun k l s cs h hc => by
    have h : unbytesC k l = some s := h
    unfold unbytesC at h
    split at h
    · injection h with h
      subst h
      exact ⟨unbytes_crl _ cs hc, rfl⟩
    · cases h
end Go.Proofs.YtpdgbhjhodhkiaaGreatDoor.AI
