/- Typed values: how memories go on. -/
import Derived.Test.YtpdgbhjhodhkiaaGreatDoorW1
set_option linter.unusedVariables false
set_option linter.unusedSimpArgs false
namespace Go.Proofs.YtpdgbhjhodhkiaaGreatDoor.AI
open Go
variable {T : Nat → Type} {C : Cod T} {α α' : List Nat} {β β' : Bt} {bs : Base} {wm wm' : WM T} {m m' : Mem}

theorem EnOk.mem {h : Nat} {e : En T} (hm : e.live = true → ∀ b ver n, β[h]? = some (some (b, ver, n)) → m'.B[b]? = m.B[b]?) (k : EnOk C α β m h e) : EnOk C α β m' h e := by
  cases e with
  | dead => trivial
  | rows kk l =>
    simp only [EnOk] at k ⊢
    rcases k with k | ⟨b, ver, cs, k1, k2, k3⟩
    · exact .inl k
    · exact .inr ⟨b, ver, cs, k1, by rw [hm rfl _ _ _ k1]; exact k2, k3⟩
  | map kk kv es =>
    simp only [EnOk] at k ⊢
    obtain ⟨b, ver, n, es', k1, k2, k3⟩ := k
    exact ⟨b, ver, n, es', k1, by rw [hm rfl _ _ _ k1]; exact k2, k3⟩
  | loop s pend tm ps as bo pt =>
    simp only [EnOk] at k ⊢
    obtain ⟨b, ver, n, tm', k1, k2, k3⟩ := k
    exact ⟨b, ver, n, tm', k1, by rw [hm rfl _ _ _ k1]; exact k2, k3⟩
theorem get_push {X : Type} {l : List X} {x y : X} {i : Nat} (h : (l ++ [x])[i]? = some y) : (l[i]? = some y) ∨ (i = l.length ∧ y = x) := by
  by_cases hi : i < l.length
  · rw [List.getElem?_append_left hi] at h; exact .inl h
  · rw [List.getElem?_append_right (by omega)] at h
    by_cases h0 : i - l.length = 0
    · rw [h0] at h; simp at h; exact .inr ⟨by omega, h.symm⟩
    · rw [List.getElem?_eq_none (by simp; omega)] at h; cases h
theorem get_push_lt {X : Type} {l : List X} {x y : X} {i : Nat} (h : l[i]? = some y) : (l ++ [x])[i]? = some y := by
  rw [List.getElem?_append_left (List.getElem?_eq_some_iff.1 h).1]; exact h
theorem get_set_cases {X : Type} {l : List X} {x y : X} {i k : Nat} (h : (l.set k x)[i]? = some y) : (i = k ∧ y = x ∧ k < l.length) ∨ (i ≠ k ∧ l[i]? = some y) := by
  rw [List.getElem?_set] at h
  split at h
  · rename_i e
    split at h
    · simp at h; exact .inl ⟨e.symm, h.symm, by assumption⟩
    · cases h
  · rename_i e
    exact .inr ⟨fun h => e h.symm, h⟩
theorem pre_app {X : Type} (l r : List X) : l <+: l ++ r := ⟨r, rfl⟩

/-- A variable is written. -/
theorem WSim.setA (S : WSim bs C α β wm m) {i j : Nat} (hj : α[i]? = some j) {ws : List (W T)} {vs : List V} (hr : RepL C α β ws vs) (hi' : Nat) :
    WSim bs C α β { wm with A := wm.A.set i ws } { m with A := m.A.set j vs, hi := hi' } := by
  have hjl := S.ltA hj
  constructor
  · simpa using S.lenA
  · exact S.lenH
  · intro i' j' ws' h1 h2
    rcases get_set_cases h2 with ⟨rfl, rfl, _⟩ | ⟨hne, h2⟩
    · rw [hj] at h1; injection h1 with h1; subst h1
      exact ⟨vs, by simp [hjl], hr⟩
    · obtain ⟨vs', h3, h4⟩ := S.A i' j' ws' h1 h2
      have : j' ≠ j := fun e => hne (S.injA _ _ _ (e ▸ h1) hj)
      exact ⟨vs', by simp only; rw [List.getElem?_set, if_neg (Ne.symm this)]; exact h3, h4⟩
  · exact S.injA
  · exact S.la
  · intro h e he
    exact EnOk.mem (m := m) (fun _ _ _ _ _ => rfl) (S.H h e he)
  · exact S.injH
  · exact S.lb
  · exact S.ltB
  · exact S.pa
  · exact S.pb
  · exact S.na
  · exact S.nb
  · intro j' hj' hn
    simp only
    rw [List.getElem?_set, if_neg, S.fa j' hj' hn]
    rintro rfl
    by_cases hb : i < bs.α.length
    · have : bs.α[i]? = some j := by
        obtain ⟨r, hr⟩ := S.pa
        rw [← hr, List.getElem?_append_left hb] at hj
        exact hj
      exact hn i this
    · have := S.na i j hj (by omega)
      omega
  · exact S.fb
  · simpa using S.lenA0
  · exact S.lenB0
  · exact S.la0
  · exact S.lb0
  · exact S.bla
  · exact S.blb
  · exact S.hpa
  · exact S.bα
  · exact S.hph

/-- A new variable. -/
theorem WSim.pushA (S : WSim bs C α β wm m) {ws : List (W T)} {vs : List V} (hr : RepL C α β ws vs) (hi' : Nat) :
    WSim bs C (α ++ [m.A.length]) β { wm with A := wm.A ++ [ws] } { m with A := m.A ++ [vs], hi := hi' } := by
  have pr : α <+: α ++ [m.A.length] := pre_app _ _
  constructor
  · simp [S.lenA]
  · exact S.lenH
  · intro i j ws' h1 h2
    rcases get_push h1 with h1 | ⟨rfl, rfl⟩
    · have h2' : wm.A[i]? = some ws' := by
        rcases get_push h2 with h2 | ⟨rfl, _⟩
        · exact h2
        · rw [List.getElem?_eq_none (by rw [S.lenA]; omega)] at h1; cases h1
      obtain ⟨vs', h3, h4⟩ := S.A i j ws' h1 h2'
      exact ⟨vs', get_push_lt h3, h4.ext pr (List.prefix_refl _)⟩
    · have : ws' = ws := by rw [S.lenA] at h2; simp at h2; exact h2.symm
      subst this
      exact ⟨vs, by simp, hr.ext pr (List.prefix_refl _)⟩
  · intro i i' j h1 h2
    rcases get_push h1 with h1' | ⟨rfl, rfl⟩ <;> rcases get_push h2 with h2' | ⟨rfl, e⟩
    · exact S.injA _ _ _ h1' h2'
    · subst e; have := S.ltA h1'; omega
    · have := S.ltA h2'; omega
    · rfl
  · intro i j h1 h2
    rcases get_push h1 with h1 | ⟨rfl, rfl⟩
    · exact S.la i j h1 h2
    · have := S.la0; have := S.lenA0; have := S.bla; show m.la ≤ m.A.length; omega
  · intro h e he
    exact (EnOk.mem (m := m) (fun _ _ _ _ _ => rfl) (S.H h e he)).ext pr (List.prefix_refl _)
  · exact S.injH
  · exact S.lb
  · exact S.ltB
  · exact S.pa.trans pr
  · exact S.pb
  · intro i j h1 h2
    rcases get_push h1 with h1 | ⟨rfl, rfl⟩
    · exact S.na i j h1 h2
    · exact S.lenA0
  · exact S.nb
  · intro j hj hn
    have := S.lenA0
    simp only
    rw [List.getElem?_append_left (by omega)]
    exact S.fa j hj hn
  · exact S.fb
  · have := S.lenA0; simp; omega
  · exact S.lenB0
  · exact S.la0
  · exact S.lb0
  · exact S.bla
  · exact S.blb
  · exact S.hpa
  · exact S.bα
  · exact S.hph


/-- A new block. -/
theorem WSim.pushB (S : WSim bs C α β wm m) {e : En T} {bb : BB} {ver n hi' : Nat}
    (hok : EnOk C α (β ++ [some (m.B.length, ver, n)]) { m with B := m.B ++ [bb], hi := hi' } β.length e) :
    WSim bs C α (β ++ [some (m.B.length, ver, n)]) { wm with H := wm.H ++ [e] } { m with B := m.B ++ [bb], hi := hi' } := by
  have pr : β <+: β ++ [some (m.B.length, ver, n)] := pre_app _ _
  have old : ∀ {h e'}, wm.H[h]? = some e' → h < β.length := fun he => by rw [S.lenH]; exact (List.getElem?_eq_some_iff.1 he).1
  constructor
  · exact S.lenA
  · simp [S.lenH]
  · intro i j ws h1 h2
    obtain ⟨vs, h3, h4⟩ := S.A i j ws h1 h2
    exact ⟨vs, h3, h4.ext (List.prefix_refl _) pr⟩
  · exact S.injA
  · exact S.la
  · intro h e' he
    rcases get_push he with he | ⟨rfl, rfl⟩
    · refine EnOk.ext (List.prefix_refl _) pr (EnOk.mem (m := m) ?_ (S.H h e' he))
      intro _ b ver' n' hb
      have := S.ltB _ _ _ _ hb
      simp only
      rw [List.getElem?_append_left this]
    · rw [← S.lenH]; exact hok
  · intro h h' e1 e2 b v1 n1 v2 n2 g1 g2 l1 l2 b1 b2
    rcases get_push g1 with p1 | ⟨rfl, rfl⟩ <;> rcases get_push g2 with p2 | ⟨rfl, rfl⟩
    · rw [List.getElem?_append_left (old p1)] at b1
      rw [List.getElem?_append_left (old p2)] at b2
      exact S.injH _ _ _ _ _ _ _ _ _ p1 p2 l1 l2 b1 b2
    · rw [List.getElem?_append_left (old p1)] at b1
      rw [← S.lenH] at b2
      simp at b2
      have := S.ltB _ _ _ _ b1
      omega
    · rw [List.getElem?_append_left (old p2)] at b2
      rw [← S.lenH] at b1
      simp at b1
      have := S.ltB _ _ _ _ b2
      omega
    · rfl
  · intro h e' b ver' n' he hl hb hlh
    rcases get_push he with he | ⟨rfl, rfl⟩
    · rw [List.getElem?_append_left (old he)] at hb
      exact S.lb _ _ _ _ _ he hl hb hlh
    · rw [← S.lenH] at hb
      simp at hb
      have := S.lb0; have := S.lenB0; have := S.blb
      simp only; omega
  · intro h b ver' n' hb
    simp only [List.length_append, List.length_singleton]
    rcases get_push hb with hb1 | ⟨rfl, hb1⟩
    · have := S.ltB _ _ _ _ hb1; omega
    · injection hb1 with hb1; injection hb1 with hb1; omega
  · exact S.pa
  · exact S.pb.trans pr
  · exact S.na
  · intro h b ver' n' hb
    rcases get_push hb with hb1 | ⟨rfl, hb1⟩
    · exact S.nb _ _ _ _ hb1
    · injection hb1 with hb1; injection hb1 with hb1; subst hb1
      exact .inr S.lenB0
  · exact S.fa
  · intro b hb hn
    have := S.lenB0
    simp only
    rw [List.getElem?_append_left (by omega)]
    exact S.fb b hb hn
  · exact S.lenA0
  · have := S.lenB0; simp; omega
  · exact S.la0
  · exact S.lb0
  · exact S.bla
  · exact S.blb
  · exact S.hpa
  · exact S.bα
  · exact S.hph

/-- A new row without a block. -/
theorem WSim.pushN (S : WSim bs C α β wm m) {e : En T} (hok : EnOk C α (β ++ [none]) m β.length e) : WSim bs C α (β ++ [none]) { wm with H := wm.H ++ [e] } m := by
  have pr : β <+: β ++ [none] := pre_app _ _
  have old : ∀ {h e'}, wm.H[h]? = some e' → h < β.length := fun he => by rw [S.lenH]; exact (List.getElem?_eq_some_iff.1 he).1
  have back : ∀ {h : Nat} {x : Nat × Nat × Nat}, (β ++ [none])[h]? = some (some x) → β[h]? = some (some x) := by
    intro h x hx
    rcases get_push hx with hx | ⟨_, hx⟩
    · exact hx
    · cases hx
  constructor
  · exact S.lenA
  · simp [S.lenH]
  · intro i j ws h1 h2
    obtain ⟨vs, h3, h4⟩ := S.A i j ws h1 h2
    exact ⟨vs, h3, h4.ext (List.prefix_refl _) pr⟩
  · exact S.injA
  · exact S.la
  · intro h e' he
    rcases get_push he with he | ⟨rfl, rfl⟩
    · exact (S.H h e' he).ext (List.prefix_refl _) pr
    · rw [← S.lenH]; exact hok
  · intro h h' e1 e2 b v1 n1 v2 n2 g1 g2 l1 l2 b1 b2
    have b1 := back b1
    have b2 := back b2
    have : h < β.length := (List.getElem?_eq_some_iff.1 b1).1
    have : h' < β.length := (List.getElem?_eq_some_iff.1 b2).1
    rcases get_push g1 with g1 | ⟨rfl, rfl⟩
    · rcases get_push g2 with g2 | ⟨rfl, rfl⟩
      · exact S.injH _ _ _ _ _ _ _ _ _ g1 g2 l1 l2 b1 b2
      · rw [S.lenH] at *; omega
    · rw [S.lenH] at *; omega
  · intro h e' b ver' n' he hl hb hlh
    have hb := back hb
    have : h < β.length := (List.getElem?_eq_some_iff.1 hb).1
    rcases get_push he with he | ⟨rfl, rfl⟩
    · exact S.lb _ _ _ _ _ he hl hb hlh
    · rw [S.lenH] at *; omega
  · intro h b ver' n' hb; exact S.ltB _ _ _ _ (back hb)
  · exact S.pa
  · exact S.pb.trans pr
  · exact S.na
  · intro h b ver' n' hb; exact S.nb _ _ _ _ (back hb)
  · exact S.fa
  · exact S.fb
  · exact S.lenA0
  · exact S.lenB0
  · exact S.la0
  · exact S.lb0
  · exact S.bla
  · exact S.blb
  · exact S.hpa
  · exact S.bα
  · exact S.hph

/-- A block is written; its row, or map, has the same number. -/
theorem WSim.setB (S : WSim bs C α β wm m) {h b ver n hi' : Nat} {e e' : En T} {bb : BB} (he : wm.H[h]? = some e) (hl : e.live = true) (hb : β[h]? = some (some (b, ver, n)))
    (hok : EnOk C α β { m with B := m.B.set b bb, hi := hi' } h e') :
    WSim bs C α β { wm with H := wm.H.set h e' } { m with B := m.B.set b bb, hi := hi' } := by
  constructor
  · exact S.lenA
  · simpa using S.lenH
  · exact S.A
  · exact S.injA
  · exact S.la
  · intro h2 e2 h2e
    rcases get_set_cases h2e with ⟨rfl, rfl, _⟩ | ⟨hne, h2e⟩
    · exact hok
    · refine EnOk.mem (m := m) ?_ (S.H h2 e2 h2e)
      intro hl2 b2 ver2 n2 hb2
      have : b2 ≠ b := fun eb => hne (S.injH _ _ _ _ _ _ _ _ _ h2e he hl2 hl (eb ▸ hb2) hb)
      simp only
      rw [List.getElem?_set, if_neg (Ne.symm this)]
  · intro h1 h2 e1 e2 b' v1 n1 v2 n2 g1 g2 l1 l2 b1 b2
    rcases get_set_cases g1 with ⟨q1, q1', _⟩ | ⟨hne1, p1⟩ <;> rcases get_set_cases g2 with ⟨q2, q2', _⟩ | ⟨hne2, p2⟩
    · rw [q1, q2]
    · subst q1; exact S.injH _ _ _ _ _ _ _ _ _ he p2 hl l2 b1 b2
    · subst q2; exact S.injH _ _ _ _ _ _ _ _ _ p1 he l1 hl b1 b2
    · exact S.injH _ _ _ _ _ _ _ _ _ p1 p2 l1 l2 b1 b2
  · intro h1 e1 b1 v1 n1 g1 l1 hb1 hlh
    rcases get_set_cases g1 with ⟨rfl, rfl, _⟩ | ⟨hne1, g1⟩
    · exact S.lb _ _ _ _ _ he hl hb1 hlh
    · exact S.lb _ _ _ _ _ g1 l1 hb1 hlh
  · intro h1 b1 v1 n1 hb1
    simpa using S.ltB _ _ _ _ hb1
  · exact S.pa
  · exact S.pb
  · exact S.na
  · exact S.nb
  · exact S.fa
  · intro b1 hb1 hn
    simp only
    rw [List.getElem?_set, if_neg, S.fb b1 hb1 hn]
    rintro rfl
    rcases S.nb _ _ _ _ hb with ⟨h', ver', n', hb'⟩ | hge
    · exact hn _ _ _ hb'
    · omega
  · exact S.lenA0
  · simpa using S.lenB0
  · exact S.la0
  · exact S.lb0
  · exact S.bla
  · exact S.blb
  · exact S.hpa
  · exact S.bα
  · exact S.hph

/-- A block has grown; its row has a new number. -/
theorem WSim.regrow (S : WSim bs C α β wm m) {h b ver n ver' n' hi' : Nat} {e e' : En T} {bb : BB} (he : wm.H[h]? = some e) (hl : e.live = true) (hb : β[h]? = some (some (b, ver, n))) (hlh : wm.lh ≤ h)
    (hok : EnOk C α (β ++ [some (b, ver', n')]) { m with B := m.B.set b bb, hi := hi' } β.length e') :
    WSim bs C α (β ++ [some (b, ver', n')]) { wm with H := wm.H.set h .dead ++ [e'] } { m with B := m.B.set b bb, hi := hi' } := by
  have pr : β <+: β ++ [some (b, ver', n')] := pre_app _ _
  have hbl := S.ltB _ _ _ _ hb
  have cas : ∀ {h1 e1}, (wm.H.set h .dead ++ [e'])[h1]? = some e1 → e1.live = true → (h1 ≠ h ∧ wm.H[h1]? = some e1 ∧ h1 < β.length) ∨ (h1 = β.length ∧ e1 = e') := by
    intro h1 e1 g1 l1
    rcases get_push g1 with g1 | ⟨rfl, rfl⟩
    · rcases get_set_cases g1 with ⟨rfl, rfl, _⟩ | ⟨hne1, g1⟩
      · cases l1
      · exact .inl ⟨hne1, g1, by rw [S.lenH]; exact (List.getElem?_eq_some_iff.1 g1).1⟩
    · exact .inr ⟨by simp [S.lenH], rfl⟩
  constructor
  · exact S.lenA
  · simp [S.lenH]
  · intro i j ws h1 h2
    obtain ⟨vs, h3, h4⟩ := S.A i j ws h1 h2
    exact ⟨vs, h3, h4.ext (List.prefix_refl _) pr⟩
  · exact S.injA
  · exact S.la
  · intro h1 e1 g1
    cases hl1 : e1.live with
    | false => cases e1 <;> first | trivial | cases hl1
    | true =>
      rcases cas g1 hl1 with ⟨hne1, g1, _⟩ | ⟨rfl, rfl⟩
      · refine EnOk.ext (List.prefix_refl _) pr (EnOk.mem (m := m) ?_ (S.H h1 e1 g1))
        intro _ b2 ver2 n2 hb2
        have : b2 ≠ b := fun eb => hne1 (S.injH _ _ _ _ _ _ _ _ _ g1 he hl1 hl (eb ▸ hb2) hb)
        simp only
        rw [List.getElem?_set, if_neg (Ne.symm this)]
      · exact hok
  · intro h1 h2 e1 e2 b' v1 n1 v2 n2 g1 g2 l1 l2 b1 b2
    rcases cas g1 l1 with ⟨hne1, p1, hlt1⟩ | ⟨q1, q1'⟩ <;> rcases cas g2 l2 with ⟨hne2, p2, hlt2⟩ | ⟨q2, q2'⟩
    · rw [List.getElem?_append_left hlt1] at b1
      rw [List.getElem?_append_left hlt2] at b2
      exact S.injH _ _ _ _ _ _ _ _ _ p1 p2 l1 l2 b1 b2
    · rw [List.getElem?_append_left hlt1] at b1
      subst q2
      simp at b2
      obtain ⟨rfl, -, -⟩ := b2
      exact absurd (S.injH _ _ _ _ _ _ _ _ _ p1 he l1 hl b1 hb) hne1
    · rw [List.getElem?_append_left hlt2] at b2
      subst q1
      simp at b1
      obtain ⟨rfl, -, -⟩ := b1
      exact absurd (S.injH _ _ _ _ _ _ _ _ _ p2 he l2 hl b2 hb) hne2
    · rw [q1, q2]
  · intro h1 e1 b1 v1 n1 g1 l1 hb1 hlh1
    rcases cas g1 l1 with ⟨hne1, g1, hlt1⟩ | ⟨rfl, rfl⟩
    · rw [List.getElem?_append_left hlt1] at hb1
      exact S.lb _ _ _ _ _ g1 l1 hb1 hlh1
    · simp at hb1
      obtain ⟨rfl, -, -⟩ := hb1
      exact S.lb _ _ _ _ _ he hl hb hlh
  · intro h1 b1 v1 n1 hb1
    simp only [List.length_set]
    rcases get_push hb1 with hb2 | ⟨rfl, hb2⟩
    · exact S.ltB _ _ _ _ hb2
    · injection hb2 with hb2; injection hb2 with hb2; subst hb2; exact hbl
  · exact S.pa
  · exact S.pb.trans pr
  · exact S.na
  · intro h1 b1 v1 n1 hb1
    rcases get_push hb1 with hb2 | ⟨rfl, hb2⟩
    · exact S.nb _ _ _ _ hb2
    · injection hb2 with hb2; injection hb2 with hb2; subst hb2; exact S.nb _ _ _ _ hb
  · exact S.fa
  · intro b1 hb1 hn
    simp only
    rw [List.getElem?_set, if_neg, S.fb b1 hb1 hn]
    rintro rfl
    rcases S.nb _ _ _ _ hb with ⟨h', ver', n', hb'⟩ | hge
    · exact hn _ _ _ hb'
    · omega
  · exact S.lenA0
  · simpa using S.lenB0
  · exact S.la0
  · exact S.lb0
  · exact S.bla
  · exact S.blb
  · exact S.hpa
  · exact S.bα
  · exact S.hph
/-- A row is given up. -/
theorem WSim.kill (S : WSim bs C α β wm m) (h : Nat) : WSim bs C α β { wm with H := wm.H.set h .dead } m := by
  have cas : ∀ {h1 : Nat} {e1 : En T}, (wm.H.set h .dead)[h1]? = some e1 → e1.live = true → wm.H[h1]? = some e1 := by
    intro h1 e1 g1 l1
    rcases get_set_cases g1 with ⟨rfl, rfl, _⟩ | ⟨hne1, g1⟩
    · cases l1
    · exact g1
  exact { S with
    lenH := by simpa using S.lenH
    A := S.A
    H := fun h1 e1 g1 => by
      cases hl1 : e1.live with
      | false => cases e1 <;> first | trivial | cases hl1
      | true => exact S.H _ _ (cas g1 hl1)
    injH := fun h1 h2 e1 e2 b' v1 n1 v2 n2 g1 g2 l1 l2 b1 b2 => S.injH _ _ _ _ _ _ _ _ _ (cas g1 l1) (cas g2 l2) l1 l2 b1 b2
    lb := fun h1 e1 b1 v1 n1 g1 l1 hb1 hlh1 => S.lb _ _ _ _ _ (cas g1 l1) l1 hb1 hlh1
    la := S.la
    hpa := S.hpa
    hph := S.hph }
/-- A row without a block has got one. -/
theorem WSim.regrowN (S : WSim bs C α β wm m) {h ver n hi' : Nat} {e : En T} {bb : BB}
    (hok : EnOk C α (β ++ [some (m.B.length, ver, n)]) { m with B := m.B ++ [bb], hi := hi' } β.length e) :
    WSim bs C α (β ++ [some (m.B.length, ver, n)]) { wm with H := wm.H.set h .dead ++ [e] } { m with B := m.B ++ [bb], hi := hi' } := (S.kill h).pushB hok
theorem set_self {X : Type} {l : List X} {i : Nat} {x : X} (h : l[i]? = some x) : l.set i x = l := by
  apply List.ext_getElem?
  intro j
  rw [List.getElem?_set]
  split
  · rename_i e
    subst e
    split
    · exact h.symm
    · rename_i hl
      rw [List.getElem?_eq_none (by omega)] at h
      cases h
  · rfl
/-- A row has a new number, and nothing else. -/
theorem WSim.renew (S : WSim bs C α β wm m) {h b ver n : Nat} {e e' : En T} {bb : BB} (he : wm.H[h]? = some e) (hl : e.live = true) (hb : β[h]? = some (some (b, ver, n))) (hlh : wm.lh ≤ h) (hB : m.B[b]? = some bb)
    (hok : EnOk C α (β ++ [some (b, ver, n)]) m β.length e') :
    WSim bs C α (β ++ [some (b, ver, n)]) { wm with H := wm.H.set h .dead ++ [e'] } m := by
  have := S.regrow (hi' := m.hi) (bb := bb) (e' := e') (ver' := ver) (n' := n) he hl hb hlh (by rw [set_self hB]; exact hok)
  rw [set_self hB] at this
  exact this
end Go.Proofs.YtpdgbhjhodhkiaaGreatDoor.AI
