/- Typed values: code; what a call leaves; rounds of loops. -/
import Derived.Test.YtpdgbhjhodhkiaaGreatDoorW8
set_option linter.unnecessarySimpa false
set_option linter.unusedVariables false
set_option linter.unusedSimpArgs false
namespace Go.Proofs.YtpdgbhjhodhkiaaGreatDoor.AI
open Go
variable {T : Nat → Type} {C : Cod T} {R : Type} {P : Program} {cfg : Cfg} {wc : WCfg T} {I : WI T R}
variable {bs : Base} {α α' : List Nat} {β β' : Bt} {wm wm' : WM T} {m m' : Mem}

/-! ### A call begins, and ends -/
theorem WSim.within (S : WSim bs C α β wm m) : WSim ⟨m, α, β⟩ C α β { wm with pa := wm.A.length, ph := wm.H.length } m :=
  { S with
    A := S.A
    la := S.la
    lb := S.lb
    pa := List.prefix_refl _
    pb := List.prefix_refl _
    na := fun i j h1 h2 => by have := (List.getElem?_eq_some_iff.1 h1).1; simp only at h2; omega
    nb := fun h b ver n hb => .inl ⟨h, ver, n, hb⟩
    fa := fun _ _ _ => rfl
    fb := fun _ _ _ => rfl
    lenA0 := Nat.le_refl _
    lenB0 := Nat.le_refl _
    la0 := rfl
    lb0 := rfl
    bla := by have := S.la0; have := S.bla; have := S.lenA0; show m.la ≤ m.A.length; omega
    blb := by have := S.lb0; have := S.blb; have := S.lenB0; show m.lb ≤ m.B.length; omega
    hpa := S.lenA
    bα := fun i j h => S.ltA h
    hph := S.lenH }
theorem WSim.not_old (S : WSim bs C α β wm m) {j : Nat} (hj : j < bs.m.A.length) (hn : ∀ (i : Nat), bs.α[i]? ≠ some j) (i : Nat) : α[i]? ≠ some j := by
  intro h
  by_cases hb : i < bs.α.length
  · have : bs.α[i]? = some j := by
      obtain ⟨r, hr⟩ := S.pa
      rw [← hr, List.getElem?_append_left hb] at h
      exact h
    exact hn i this
  · have := S.na i j h (by omega)
    omega
theorem WSim.back (S : WSim bs C α β wm m) (S' : WSim ⟨m, α, β⟩ C α' β' wm' m') : WSim bs C α' β' { wm' with pa := wm.pa, ph := wm.ph } m' :=
  { S' with
    A := S'.A
    la := S'.la
    lb := S'.lb
    pa := S.pa.trans S'.pa
    pb := S.pb.trans S'.pb
    na := fun i j h1 h2 => by
      by_cases hi : i < α.length
      · have : α[i]? = some j := by
          obtain ⟨r, hr⟩ := S'.pa
          simp only at hr
          rw [← hr, List.getElem?_append_left hi] at h1
          exact h1
        exact S.na i j this h2
      · have h3 := S'.na i j h1 (by simp only; omega)
        have := S.lenA0
        simp only at h3
        omega
    nb := fun h b ver n hb => by
      rcases S'.nb h b ver n hb with ⟨h', ver', n', hb'⟩ | hge
      · exact S.nb _ _ _ _ hb'
      · have := S.lenB0
        simp only at hge
        right; omega
    fa := fun j hj hn => by
      have := S.lenA0
      rw [S'.fa j (by simp only; omega) (S.not_old hj hn)]
      exact S.fa j hj hn
    fb := fun b hb hn => by
      have := S.lenB0
      rw [S'.fb b (by simp only; omega) (fun h ver n hh => by
        rcases S.nb _ _ _ _ hh with ⟨h', ver', n', hb'⟩ | hge
        · exact hn _ _ _ hb'
        · omega)]
      exact S.fb b hb hn
    lenA0 := Nat.le_trans S.lenA0 S'.lenA0
    lenB0 := Nat.le_trans S.lenB0 S'.lenB0
    la0 := S'.la0.trans S.la0
    lb0 := S'.lb0.trans S.lb0
    bla := S.bla
    blb := S.blb
    hpa := S.hpa
    bα := S.bα
    hph := S.hph }

mutual
/-- All pointers lead to the first n variables. -/
def W.low (n : Nat) : W T → Bool
  | .ptr i _ => Nat.blt i n
  | .fn _ ws => lowL n ws
  | .ifc _ w => W.low n w
  | .agg ws => lowL n ws
  | .tup ws => lowL n ws
  | .undef | .bool _ | .int _ _ | .str _ | .nilp | .nilsl | .row _ _ _ | .relem _ _ _ | .own _ _ | .view _ _ _ _ | .oelem _ _ _ _ | .nilm | .map _ | .nilf | .yld _ | .nili => true
def lowL (n : Nat) : List (W T) → Bool
  | [] => true
  | w :: ws => W.low n w && lowL n ws
end
mutual
theorem Rep.low {n : Nat} : ∀ {w : W T} {v : V}, Rep C α β w v → W.low n w = true → Rep C (α.take n) β w v
  | .ptr i _, _, h, hl => by
    simp only [Rep] at h ⊢
    obtain ⟨j, h1, h2⟩ := h
    simp only [W.low, Nat.blt_eq] at hl
    exact ⟨j, by rw [List.getElem?_take, if_pos hl]; exact h1, h2⟩
  | .fn _ ws, _, h, hl => by
    simp only [Rep] at h ⊢
    obtain ⟨vs, h1, h2⟩ := h
    exact ⟨vs, h1, RepL.low h2 (by simpa only [W.low] using hl)⟩
  | .ifc _ w, _, h, hl => by
    simp only [Rep] at h ⊢
    obtain ⟨u, h1, h2⟩ := h
    exact ⟨u, h1, Rep.low h2 (by simpa only [W.low] using hl)⟩
  | .agg ws, _, h, hl => by
    simp only [Rep] at h ⊢
    obtain ⟨vs, h1, h2⟩ := h
    exact ⟨vs, h1, RepL.low h2 (by simpa only [W.low] using hl)⟩
  | .tup ws, _, h, hl => by
    simp only [Rep] at h ⊢
    obtain ⟨vs, h1, h2⟩ := h
    exact ⟨vs, h1, RepL.low h2 (by simpa only [W.low] using hl)⟩
  | .undef, _, h, _ | .bool _, _, h, _ | .int _ _, _, h, _ | .str _, _, h, _ | .nilp, _, h, _ | .nilsl, _, h, _ | .row _ _ _, _, h, _ | .relem _ _ _, _, h, _ | .own _ _, _, h, _
  | .view _ _ _ _, _, h, _ | .oelem _ _ _ _, _, h, _ | .nilm, _, h, _ | .map _, _, h, _ | .nilf, _, h, _ | .yld _, _, h, _ | .nili, _, h, _ => by simpa only [Rep] using h
theorem RepL.low {n : Nat} : ∀ {ws : List (W T)} {vs : List V}, RepL C α β ws vs → lowL n ws = true → RepL C (α.take n) β ws vs
  | [], _, h, _ => by simpa only [RepL] using h
  | w :: ws, _, h, hl => by
    simp only [RepL] at h ⊢
    obtain ⟨v, vs', rfl, h1, h2⟩ := h
    simp only [lowL, Bool.and_eq_true] at hl
    exact ⟨v, vs', rfl, Rep.low h1 hl.1, RepL.low h2 hl.2⟩
end
mutual
/-- A pointer that leads farther keeps the machine's memory as it is. -/
theorem Rep.high {n nv : Nat} (hn : ∀ (i j : Nat), α[i]? = some j → n ≤ i → nv ≤ j) : ∀ {w : W T} {v : V}, Rep C α β w v → W.low n w = false → nv < V.maxA v
  | .ptr i _, _, h, hl => by
    simp only [Rep] at h
    obtain ⟨j, h1, rfl⟩ := h
    have hl : n ≤ i := by
      simp only [W.low] at hl
      have : ¬ i < n := by rw [← Nat.blt_eq, hl]; simp
      omega
    have := hn i j h1 hl
    simp only [V.maxA]; omega
  | .fn _ ws, _, h, hl => by
    simp only [Rep] at h
    obtain ⟨vs, rfl, h2⟩ := h
    simp only [V.maxA]
    exact RepL.high hn h2 (by simpa only [W.low] using hl)
  | .ifc _ w, _, h, hl => by
    simp only [Rep] at h
    obtain ⟨u, rfl, h2⟩ := h
    simp only [V.maxA]
    exact Rep.high hn h2 (by simpa only [W.low] using hl)
  | .agg ws, _, h, hl => by
    simp only [Rep] at h
    obtain ⟨vs, rfl, h2⟩ := h
    simp only [V.maxA]
    exact RepL.high hn h2 (by simpa only [W.low] using hl)
  | .tup ws, _, h, hl => by
    simp only [Rep] at h
    obtain ⟨vs, rfl, h2⟩ := h
    simp only [V.maxA]
    exact RepL.high hn h2 (by simpa only [W.low] using hl)
  | .undef, _, h, hl | .bool _, _, h, hl | .int _ _, _, h, hl | .str _, _, h, hl | .nilp, _, h, hl | .nilsl, _, h, hl | .row _ _ _, _, h, hl | .relem _ _ _, _, h, hl | .own _ _, _, h, hl
  | .view _ _ _ _, _, h, hl | .oelem _ _ _ _, _, h, hl | .nilm, _, h, hl | .map _, _, h, hl | .nilf, _, h, hl | .yld _, _, h, hl | .nili, _, h, hl => by simp [W.low] at hl
theorem RepL.high {n nv : Nat} (hn : ∀ (i j : Nat), α[i]? = some j → n ≤ i → nv ≤ j) : ∀ {ws : List (W T)} {vs : List V}, RepL C α β ws vs → lowL n ws = false → nv < maxAL vs
  | [], _, h, hl => by simp [lowL] at hl
  | w :: ws, _, h, hl => by
    simp only [RepL] at h
    obtain ⟨v, vs', rfl, h1, h2⟩ := h
    simp only [maxAL]
    cases hw : W.low n w with
    | false => have := Rep.high hn h1 hw; omega
    | true =>
      have := RepL.high hn h2 (by simpa only [lowL, hw, Bool.true_and] using hl)
      omega
end
def En.low (n : Nat) : En T → Bool
  | .loop _ _ tm _ _ _ _ => lowL n tm
  | _ => true
theorem EnOk.low {n h : Nat} {e : En T} (k : EnOk C α β m h e) (hl : En.low n e = true) : EnOk C (α.take n) β m h e := by
  cases e with
  | dead => trivial
  | rows kk l => exact k
  | map kk kv es => exact k
  | loop s pend tm ps as bo pt =>
    simp only [EnOk] at k ⊢
    obtain ⟨b, ver, nn, tm', k1, k2, k3⟩ := k
    exact ⟨b, ver, nn, tm', k1, k2, k3.low hl⟩
/-- The variables from the n-th on are forgotten. -/
theorem WSim.dropA (S : WSim bs C α β wm m) {n : Nat} (hn : wm.pa ≤ n) (hA : (wm.A.take n).all (lowL n) = true) (hH : wm.H.all (En.low n) = true) : WSim bs C (α.take n) β { wm with A := wm.A.take n } m := by
  have sub : ∀ {i j : Nat}, (α.take n)[i]? = some j → α[i]? = some j ∧ i < n := by
    intro i j h
    rw [List.getElem?_take] at h
    split at h
    · exact ⟨h, by assumption⟩
    · cases h
  exact { S with
    lenA := by simp [S.lenA]
    A := fun i j ws h1 h2 => by
      simp only at h2
      have h2' : wm.A[i]? = some ws := by
        rw [List.getElem?_take] at h2
        split at h2
        · exact h2
        · cases h2
      obtain ⟨vs, h3, h4⟩ := S.A i j ws (sub h1).1 h2'
      refine ⟨vs, h3, h4.low ?_⟩
      exact List.all_eq_true.1 hA ws (List.mem_of_getElem? h2)
    injA := fun i i' j h1 h2 => S.injA _ _ _ (sub h1).1 (sub h2).1
    la := fun i j h1 h2 => S.la i j (sub h1).1 h2
    H := fun h e he => (S.H h e he).low (List.all_eq_true.1 hH e (List.mem_of_getElem? he))
    pa := by
      have := S.hpa
      obtain ⟨r, hr⟩ := S.pa
      rw [← hr]
      exact ⟨r.take (n - bs.α.length), by rw [List.take_append, List.take_of_length_le (l := bs.α) (by omega)]⟩
    na := fun i j h1 h2 => S.na i j (sub h1).1 h2
    hpa := S.hpa }
/-- The machine's side forgets variables too. -/
theorem WSim.truncA (S : WSim bs C α β wm m) {n : Nat} (hn : bs.m.A.length ≤ n) (ha : ∀ (i j : Nat), α[i]? = some j → j < n) (hl : n ≤ m.A.length) : WSim bs C α β wm { m with A := m.A.take n } :=
  { S with
    A := fun i j ws h1 h2 => by
      obtain ⟨vs, h3, h4⟩ := S.A i j ws h1 h2
      exact ⟨vs, by simp only; rw [List.getElem?_take, if_pos (ha i j h1)]; exact h3, h4⟩
    la := S.la
    H := fun h e he => EnOk.mem (m := m) (fun _ _ _ _ _ => rfl) (S.H h e he)
    lb := S.lb
    ltB := S.ltB
    fa := fun j hj hn' => by
      simp only
      rw [List.getElem?_take, if_pos (by omega)]
      exact S.fa j hj hn'
    fb := S.fb
    lenA0 := by simp only [List.length_take]; omega
    lenB0 := S.lenB0
    la0 := S.la0
    lb0 := S.lb0 }
theorem WSim.hi' (S : WSim bs C α β wm m) (h' : Nat) : WSim bs C α β wm { m with hi := h' } :=
  { S with
    A := S.A
    la := S.la
    H := fun h e he => EnOk.mem (m := m) (fun _ _ _ _ _ => rfl) (S.H h e he)
    lb := S.lb
    ltB := S.ltB
    fa := S.fa
    fb := S.fb
    lenA0 := S.lenA0
    lenB0 := S.lenB0
    la0 := S.la0
    lb0 := S.lb0 }

/-! ### Code -/
def knowW (st : WSt T) (o : Operand) (b : Bool) : WSt T :=
  match o with
  | .tmp t => { st with tm := st.tm.set t (.bool b) }
  | _ => st
theorem knowW_sound {st : WSt T} {o : Operand} {b : Bool} (h : evalW st.tm o = .bool b) {vst : St} (S : SSim bs C α β st vst) : SSim bs C α β (knowW st o b) vst := by
  unfold knowW
  split
  · rename_i t
    simp only [evalW] at h
    refine ⟨?_, S.mem, S.df, S.rd⟩
    have hw : st.tm[t]? = some (.bool b) := by
      rw [List.getD_eq_getElem?_getD] at h
      cases hx : st.tm[t]? with
      | none => rw [hx] at h; simp at h
      | some x => rw [hx] at h; simp at h; rw [h]
    rw [set_self hw]
    exact S.tm
  · exact S
/-- What a region closes off at its begin. -/
def sealTK (wm : WM T) (ts : List Tmp) : Nat → List (W T) → (List (W T) × List Nat → Option R) → Option R
  | _, [], k => k ([], [])
  | i, w :: ws, k =>
    if ts.contains i then
      match w with
      | .own kk h => sealK wm (.own kk h) fun w' => sealTK wm ts (i + 1) ws fun x => k (w' :: x.1, h :: x.2)
      | .view kk h off len => sealK wm (.view kk h off len) fun w' => sealTK wm ts (i + 1) ws fun x => k (w' :: x.1, h :: x.2)
      | .undef => none
      | .bool b => sealTK wm ts (i + 1) ws fun x => k (.bool b :: x.1, x.2)
      | .int t b => sealTK wm ts (i + 1) ws fun x => k (.int t b :: x.1, x.2)
      | .str b => sealTK wm ts (i + 1) ws fun x => k (.str b :: x.1, x.2)
      | .nilsl => sealTK wm ts (i + 1) ws fun x => k (.nilsl :: x.1, x.2)
      | .row kk l fl => sealTK wm ts (i + 1) ws fun x => k (.row kk l fl :: x.1, x.2)
      | .agg l => sealTK wm ts (i + 1) ws fun x => k (.agg l :: x.1, x.2)
      | .ptr a b => sealTK wm ts (i + 1) ws fun x => k (.ptr a b :: x.1, x.2)
      | _ => none
    else sealTK wm ts (i + 1) ws fun x => k (w :: x.1, x.2)
def sealWK (ts : List Tmp) (st : WSt T) (k : WSt T → Option R) : Option R :=
  if ts.isEmpty then k st else sealTK st.mem ts 0 st.tm fun x => k { st with tm := x.1, mem := killAll x.2 st.mem }
theorem sealAt_no {m : Mem} {ts : List Tmp} {i : Nat} {v : V} {vs : List V} (h : ∀ b ver off len, v ≠ .sl b ver off len) : sealAt m ts i (v :: vs) = (v :: (sealAt m ts (i + 1) vs).1, (sealAt m ts (i + 1) vs).2) := by
  simp only [sealAt]
  split
  · first
      | rfl
      | (split
         · exact absurd rfl (h _ _ _ _)
         · rfl)
  · rfl
theorem sealAt_off {m : Mem} {ts : List Tmp} {i : Nat} {v : V} {vs : List V} (h : ts.contains i ≠ true) : sealAt m ts i (v :: vs) = (v :: (sealAt m ts (i + 1) vs).1, (sealAt m ts (i + 1) vs).2) := by
  simp only [sealAt]
  rw [if_neg h]
theorem sealTK_sound (ok : CodOk C) {wm : WM T} {ts : List Tmp} : ∀ (ws : List (W T)) (i : Nat) {k : List (W T) × List Nat → Option R} {r : R}, sealTK wm ts i ws k = some r →
    ∃ x, k x = some r ∧ ∀ {bs α β m vs}, WSim bs C α β wm m → RepL C α β ws vs → RepL C α β x.1 (sealAt m ts i vs).1 ∧ ∀ b ∈ (sealAt m ts i vs).2, ∃ h ∈ x.2, ∃ e ver n, wm.H[h]? = some e ∧ e.live = true ∧ β[h]? = some (some (b, ver, n))
  | [], i, k, r, h => by
    refine ⟨_, h, fun S hr => ?_⟩
    simp only [RepL] at hr
    subst hr
    exact ⟨RepL.nil, by simp [sealAt]⟩
  | w :: ws, i, k, r, h => by
    have key : (∀ {α β v}, Rep C α β w v → ∀ b ver off len, v ≠ .sl b ver off len) → (sealTK wm ts (i + 1) ws fun x => k (w :: x.1, x.2)) = some r → ∃ x, k x = some r ∧ ∀ {bs α β m vs}, WSim bs C α β wm m → RepL C α β (w :: ws) vs → RepL C α β x.1 (sealAt m ts i vs).1 ∧ ∀ b ∈ (sealAt m ts i vs).2, ∃ h ∈ x.2, ∃ e ver n, wm.H[h]? = some e ∧ e.live = true ∧ β[h]? = some (some (b, ver, n)) := by
      intro hne h
      obtain ⟨x, h1, h2⟩ := sealTK_sound ok ws (i + 1) h
      refine ⟨_, h1, fun {bs α β m vs} S hr => ?_⟩
      simp only [RepL] at hr
      obtain ⟨v, vs', rfl, hr1, hr2⟩ := hr
      rw [sealAt_no (hne hr1)]
      obtain ⟨g1, g2⟩ := h2 S hr2
      exact ⟨RepL.cons hr1 g1, g2⟩
    have key2 : ∀ (hd : Nat) (w0 : W T), w = w0 → (w0 = .own 0 0 ∨ True) → W.used w0 = [hd] → (sealK wm w0 fun w' => sealTK wm ts (i + 1) ws fun x => k (w' :: x.1, hd :: x.2)) = some r → (∀ {α β v}, Rep C α β w0 v → (∃ fl, v = .ro [] 0 fl) ∨ ∃ b ver off len, v = .sl b ver off len) → ts.contains i = true → ∃ x, k x = some r ∧ ∀ {bs α β m vs}, WSim bs C α β wm m → RepL C α β (w :: ws) vs → RepL C α β x.1 (sealAt m ts i vs).1 ∧ ∀ b ∈ (sealAt m ts i vs).2, ∃ h ∈ x.2, ∃ e ver n, wm.H[h]? = some e ∧ e.live = true ∧ β[h]? = some (some (b, ver, n)) := by
      intro hd w0 hw0 _ hud h hrep hc
      subst hw0
      have hus := @sealK_used T C R wm w _ r h
      obtain ⟨w', h0, hn, hs⟩ := sealK_sound ok w h
      obtain ⟨x, h1, h2⟩ := sealTK_sound ok ws (i + 1) h0
      refine ⟨_, h1, fun {bs α β m vs} S hr => ?_⟩
      simp only [RepL] at hr
      obtain ⟨v, vs', rfl, hr1, hr2⟩ := hr
      obtain ⟨g1, g2⟩ := h2 S hr2
      obtain ⟨v', s1, s2⟩ := hs S hr1
      rcases hrep hr1 with ⟨fl, rfl⟩ | ⟨b, ver, off, len, rfl⟩
      · rw [sealAt_no (fun _ _ _ _ h => by cases h)]
        have : v' = .ro [] 0 fl := by
          simp only [shut] at s1
          split at s1
          · injection s1 with s1; exact s1.symm
          · cases s1
        subst this
        exact ⟨RepL.cons (noref_any s2 hn) g1, fun b hb => by
          obtain ⟨h', k1, k2⟩ := g2 b hb
          exact ⟨h', List.mem_cons_of_mem _ k1, k2⟩⟩
      · have e : sealAt m ts i (V.sl b ver off len :: vs') = (v' :: (sealAt m ts (i + 1) vs').1, b :: (sealAt m ts (i + 1) vs').2) := by
          simp only [sealAt]
          rw [if_pos hc, s1]
        rw [e]
        refine ⟨RepL.cons (noref_any s2 hn) g1, fun b' hb => ?_⟩
        rcases List.mem_cons.1 hb with rfl | hb
        · obtain ⟨h', k1, k2⟩ := hus hr1 b' (by simp [V.used])
          rw [hud, List.mem_singleton] at k1
          subst k1
          exact ⟨h', List.mem_cons_self, k2⟩
        · obtain ⟨h', k1, k2⟩ := g2 b' hb
          exact ⟨h', List.mem_cons_of_mem _ k1, k2⟩
    simp only [sealTK] at h
    split at h
    · rename_i hc
      split at h
      · exact key2 _ _ rfl (.inr trivial) rfl h (fun hr => by
          simp only [Rep] at hr
          rcases hr with ⟨_, rfl⟩ | ⟨b, ver, n, _, rfl⟩
          · exact .inl ⟨_, rfl⟩
          · exact .inr ⟨_, _, _, _, rfl⟩) hc
      · exact key2 _ _ rfl (.inr trivial) rfl h (fun hr => by
          simp only [Rep] at hr
          rcases hr with ⟨_, _, _, fl, rfl⟩ | ⟨b, ver, n, _, rfl⟩
          · exact .inl ⟨_, rfl⟩
          · exact .inr ⟨_, _, _, _, rfl⟩) hc
      · cases h
      · exact key (fun hr b ver off len e => by simp only [Rep] at hr; subst hr; cases e) h
      · exact key (fun hr b ver off len e => by simp only [Rep] at hr; subst hr; cases e) h
      · exact key (fun hr b ver off len e => by simp only [Rep] at hr; subst hr; cases e) h
      · exact key (fun hr b ver off len e => by simp only [Rep] at hr; subst hr; cases e) h
      · exact key (fun hr b ver off len e => by simp only [Rep] at hr; obtain ⟨_, _, rfl, _⟩ := hr; cases e) h
      · exact key (fun hr b ver off len e => by simp only [Rep] at hr; obtain ⟨_, rfl, _⟩ := hr; cases e) h
      · exact key (fun hr b ver off len e => by simp only [Rep] at hr; obtain ⟨_, _, rfl⟩ := hr; cases e) h
      · cases h
    · rename_i hc
      obtain ⟨x, h1, h2⟩ := sealTK_sound ok ws (i + 1) h
      refine ⟨_, h1, fun {bs α β m vs} S hr => ?_⟩
      simp only [RepL] at hr
      obtain ⟨v, vs', rfl, hr1, hr2⟩ := hr
      rw [sealAt_off hc]
      obtain ⟨g1, g2⟩ := h2 S hr2
      exact ⟨RepL.cons hr1 g1, g2⟩
theorem sealWK_sound (ok : CodOk C) {ts : List Tmp} {st : WSt T} {k : WSt T → Option R} {r : R} (h : sealWK ts st k = some r) :
    ∃ st', k st' = some r ∧ ∀ {bs α β vst}, SSim bs C α β st vst → SSim bs C α β st' (sealSt ts vst) := by
  unfold sealWK at h
  split at h
  · rename_i he
    refine ⟨_, h, fun S => ?_⟩
    unfold sealSt
    rw [if_pos he]
    exact S
  · rename_i he
    obtain ⟨x, h1, h2⟩ := sealTK_sound ok st.tm 0 h
    refine ⟨_, h1, fun {bs α β vst} S => ?_⟩
    obtain ⟨g1, g2⟩ := h2 S.mem S.tm
    unfold sealSt
    rw [if_neg he]
    refine ⟨g1, ?_, S.df, S.rd⟩
    refine WSim.frozen (WSim.killAll _ S.mem) _ (fun h e b ver n he hl hb hbu => ?_) (fun b hb => ?_)
    · obtain ⟨k1, k2⟩ := killAll_get _ _ _ _ he hl
      obtain ⟨h', j1, e', ver', n', j2, j3, j4⟩ := g2 b hbu
      have := S.mem.injH _ _ _ _ _ _ _ _ _ k1 j2 hl j3 hb j4
      subst this
      exact k2 j1
    · obtain ⟨h', j1, e', ver', n', j2, j3, j4⟩ := g2 b hb
      exact ⟨h', ver', n', j4⟩
/-- The temps that code reads. -/
def readTs : Code → List Nat
  | .region _ ops _ => ops.toList.flatMap fun o => tmpsOf o.op.operands.toList ++ (match o.guard with | some (j, _) => ((ops[j]?).bind (·.dst)).toList | none => [])
  | .seq a b => readTs a ++ readTs b
  | .cond c a b => tmpsOf [c] ++ readTs a ++ readTs b
  | .block _ c => readTs c
  | .loop c => readTs c
  | .rangeFunc f _ a b => tmpsOf [f] ++ readTs a ++ readTs b
  | _ => []
def maskT (ts : List Nat) : Nat → List (W T) → List (W T)
  | _, [] => []
  | i, w :: ws => (if ts.contains i then w else .undef) :: maskT ts (i + 1) ws
theorem maskT_rep {ts : List Nat} : ∀ {ws : List (W T)} {i : Nat} {vs : List V}, RepL C α β ws vs → RepL C α β (maskT ts i ws) vs
  | [], i, vs, h => h
  | w :: ws, i, vs, h => by
    simp only [RepL] at h
    obtain ⟨v, vs', rfl, h1, h2⟩ := h
    simp only [maskT]
    refine RepL.cons ?_ (maskT_rep h2)
    split
    · exact h1
    · simp only [Rep]
def execWK (cfg : Cfg) (wc : WCfg T) (I : WI T R) : Code → List Nat → WSt T → (Ex × WSt T → Option R) → Option R
  | .skip, _, st, k => k (.normal, st)
  | .label _, _, st, k => k (.normal, st)
  | .region _ ops draw, _, st, k =>
    sealWK (sealTs cfg ops.toList) st fun st =>
    if draw && !drawOk ops then none else
    match preAllocW cfg.P ops.toList with
    | none => none
    | some zs => runWK cfg wc I draw ops st.mem.A.length (List.range ops.size) { st with mem := { st.mem with A := st.mem.A ++ zs } } fun st' => k (.normal, st')
  | .seq a b, p, st, k => if I.blk p then I.cut (.seq a b) p st k else execWK cfg wc I a (0 :: p) st fun x =>
    match x with
    | (.normal, st1) => execWK cfg wc I b (1 :: p) st1 k
    | (.exit id, st1) => k (.exit id, st1)
    | (.ret, st1) => k (.ret, st1)
  | .cond c a b, p, st, k => if I.blk p then I.cut (.cond c a b) p st k else
    match evalW st.tm c with
    | .bool t => cnd t (execWK cfg wc I a (0 :: p) (knowW st c t) k) (execWK cfg wc I b (1 :: p) (knowW st c t) k)
    | _ => none
  | .block id c, p, st, k => if I.blk p then I.cut (.block id c) p st k else execWK cfg wc I c (0 :: p) st fun x =>
    match x with
    | (.exit id', st1) => if id' = id then k (.normal, st1) else k (.exit id', st1)
    | (.normal, st1) => k (.normal, st1)
    | (.ret, st1) => k (.ret, st1)
  | .loop c, p, st, k => I.loop c p st k
  | .rangeFunc f ps assign body, p, st, k =>
    if st.rd then none else
    match evalW st.tm f with
    | .fn g caps =>
      I.call g (.yld st.mem.H.length :: caps) { st.mem with H := st.mem.H ++ [.loop .ready none (maskT (readTs assign ++ readTs body) 0 st.tm) ps.toList assign body p] } fun (_, wm) =>
        match wm.H[st.mem.H.length]? with
        | some (.loop s pend tm ps' as' bo' pt) =>
          if s = .busy then none else
          if st.mem.lh ≤ st.mem.H.length then
          match pend with
          | none => k (.normal, { st with mem := { wm with H := wm.H.set st.mem.H.length (.loop .exhausted pend tm ps' as' bo' pt) } })
          | some .ret => k (.ret, { st with mem := { wm with H := wm.H.set st.mem.H.length (.loop .exhausted pend tm ps' as' bo' pt) } })
          | some (.exit id) => k (.exit id, { st with mem := { wm with H := wm.H.set st.mem.H.length (.loop .exhausted pend tm ps' as' bo' pt) } })
          | _ => none
          else none
        | _ => none
    | _ => none
  | .exit id, _, st, k => k (.exit id, st)
  | .ret, _, st, k => k (.ret, st)
  | .scope _, _, _, _ => none
  | .goto _, _, _, _ => none
  | .refuse _, _, _, _ => none

def pendEx : Option Code → Option Ex
  | none => some .normal
  | some .ret => some .ret
  | some (.exit id) => some (.exit id)
  | _ => none
theorem execWK_sound (ok : CodOk wc.C) (io : IOk cfg wc.C I) : ∀ (c : Code) (p : List Nat) {st : WSt T} {k : Ex × WSt T → Option R} {r : R}, execWK cfg wc I c p st k = some r → ∃ x, k x = some r ∧ LoopSaid cfg wc.C c st x
  | .skip, p, st, k, r, h => ⟨_, h, fun {bs α β vst} S => ⟨vst, α, β, rfl, List.prefix_refl _, S⟩⟩
  | .label _, p, st, k, r, h => ⟨_, h, fun {bs α β vst} S => ⟨vst, α, β, rfl, List.prefix_refl _, S⟩⟩
  | .exit id, p, st, k, r, h => ⟨_, h, fun {bs α β vst} S => ⟨vst, α, β, rfl, List.prefix_refl _, S⟩⟩
  | .ret, p, st, k, r, h => ⟨_, h, fun {bs α β vst} S => ⟨vst, α, β, rfl, List.prefix_refl _, S⟩⟩
  | .region _ ops draw, p, st, k, r, h => by
    simp only [execWK] at h
    obtain ⟨st1, h, hseal⟩ := sealWK_sound ok h
    split at h
    · cases h
    · rename_i hd
      split at h
      · cases h
      · rename_i zs hz
        obtain ⟨st', h1, h2⟩ := runWK_sound ok io _ h
        refine ⟨_, h1, fun {bs α β vst} S0 => ?_⟩
        have S := hseal S0
        obtain ⟨vzs, h3, h4, h5, h6⟩ := preAllocW_sound (C := wc.C) hz
        obtain ⟨α1, h7, S1⟩ := h6 S.mem
        have hpre : α <+: α1 := by rw [h7]; exact pre_app _ _
        have S2 : SSim bs wc.C α1 β { st1 with mem := { st1.mem with A := st1.mem.A ++ zs } } { sealSt (sealTs cfg ops.toList) vst with mem := { (sealSt (sealTs cfg ops.toList) vst).mem with A := (sealSt (sealTs cfg ops.toList) vst).mem.A ++ vzs } } := ⟨S.tm.ext hpre (List.prefix_refl _), S1, S.df.ext hpre (List.prefix_refl _), S.rd⟩
        have hsl : Slots ops α1 st1.mem.A.length (sealSt (sealTs cfg ops.toList) vst).mem.A.length := by
          intro s hs
          rw [← h5, h4] at hs
          rw [h7, ← S.mem.lenA, List.getElem?_append_right (by omega), Nat.add_sub_cancel_left]
          simp [hs]
        obtain ⟨vst', α', β', h8, h9, S3⟩ := h2 S2 hsl
        refine ⟨vst', α', β', ?_, hpre.trans h9, S3⟩
        simp only [exec, regV]
        rw [if_neg hd]
        simp only [h3, h8, Option.map_some]
  | .seq a b, p, st, k, r, h => by
    simp only [execWK] at h
    split at h
    · exact io.cut h
    · obtain ⟨⟨e, s⟩, h2, h1⟩ := execWK_sound ok io a (0 :: p) h
      cases e with
      | normal =>
        obtain ⟨x, h4, h3⟩ := execWK_sound ok io b (1 :: p) h2
        refine ⟨x, h4, fun S => ?_⟩
        obtain ⟨v1, α1, β1, h5, h6, S1⟩ := h1 S
        obtain ⟨v2, α2, β2, h7, h8, S2⟩ := h3 S1
        exact ⟨v2, α2, β2, by simp only [exec, h5, h7], h6.trans h8, S2⟩
      | exit id =>
        refine ⟨_, h2, fun S => ?_⟩
        obtain ⟨v1, α1, β1, h5, h6, S1⟩ := h1 S
        exact ⟨v1, α1, β1, by simp only [exec, h5], h6, S1⟩
      | ret =>
        refine ⟨_, h2, fun S => ?_⟩
        obtain ⟨v1, α1, β1, h5, h6, S1⟩ := h1 S
        exact ⟨v1, α1, β1, by simp only [exec, h5], h6, S1⟩
  | .cond c a b, p, st, k, r, h => by
    simp only [execWK] at h
    split at h
    · exact io.cut h
    · split at h
      · rename_i t ht
        have know : ∀ {bs α β vst}, SSim bs wc.C α β st vst → evalO vst.tm c = .bool t := by
          intro bs α β vst S
          have := rep_eval S.tm c
          rw [ht] at this
          simpa only [Rep] using this
        rcases cond_cases h with ⟨rfl, h⟩ | ⟨rfl, h⟩
        · obtain ⟨x, h4, h3⟩ := execWK_sound ok io a (0 :: p) h
          refine ⟨x, h4, fun S => ?_⟩
          obtain ⟨v1, α1, β1, h5, h6, S1⟩ := h3 (knowW_sound ht S)
          exact ⟨v1, α1, β1, by simp only [exec, know S, h5], h6, S1⟩
        · obtain ⟨x, h4, h3⟩ := execWK_sound ok io b (1 :: p) h
          refine ⟨x, h4, fun S => ?_⟩
          obtain ⟨v1, α1, β1, h5, h6, S1⟩ := h3 (knowW_sound ht S)
          exact ⟨v1, α1, β1, by simp only [exec, know S, h5], h6, S1⟩
      · cases h
  | .block id c, p, st, k, r, h => by
    simp only [execWK] at h
    split at h
    · exact io.cut h
    · obtain ⟨⟨e, s⟩, h2, h1⟩ := execWK_sound ok io c (0 :: p) h
      cases e with
      | normal =>
        refine ⟨_, h2, fun S => ?_⟩
        obtain ⟨v1, α1, β1, h5, h6, S1⟩ := h1 S
        exact ⟨v1, α1, β1, by simp only [exec, h5], h6, S1⟩
      | ret =>
        refine ⟨_, h2, fun S => ?_⟩
        obtain ⟨v1, α1, β1, h5, h6, S1⟩ := h1 S
        exact ⟨v1, α1, β1, by simp only [exec, h5], h6, S1⟩
      | exit id' =>
        simp only at h2
        split at h2
        · rename_i hid
          refine ⟨_, h2, fun S => ?_⟩
          obtain ⟨v1, α1, β1, h5, h6, S1⟩ := h1 S
          exact ⟨v1, α1, β1, by simp only [exec, h5, hid, if_true], h6, S1⟩
        · rename_i hid
          refine ⟨_, h2, fun S => ?_⟩
          obtain ⟨v1, α1, β1, h5, h6, S1⟩ := h1 S
          exact ⟨v1, α1, β1, by simp only [exec, h5, hid, if_false], h6, S1⟩
  | .loop c, p, st, k, r, h => by
    simp only [execWK] at h
    exact io.loop h
  | .rangeFunc f ps assign body, p, st, k, r, h => by
    simp only [execWK] at h
    split at h
    · cases h
    · rename_i hrd
      split at h
      · rename_i g caps hf
        obtain ⟨w, wm', h1, h2⟩ := io.call h
        simp only at h1
        split at h1
        · rename_i s pend tm ps' as' bo' pt he
          split at h1
          · cases h1
          · rename_i hs
            split at h1
            · rename_i hlh
              have key : ∀ (e : Ex), pendEx pend = some e →
                  LoopSaid cfg wc.C (.rangeFunc f ps assign body) st (e, { st with mem := { wm' with H := wm'.H.set st.mem.H.length (.loop .exhausted pend tm ps' as' bo' pt) } }) := by
                intro e hpe bs α β vst S
                have h3 := rep_eval S.tm f
                rw [hf] at h3
                simp only [Rep] at h3
                obtain ⟨vcaps, h3, h4⟩ := h3
                have hlen : β.length = st.mem.H.length := S.mem.lenH
                have S1 := S.mem.pushB (ver := 0) (n := 0) (hi' := max vst.mem.hi (maxAL vst.tm)) (e := .loop .ready none (maskT (readTs assign ++ readTs body) 0 st.tm) ps.toList assign body p) (bb := .loop .ready none vst.tm ps.toList assign body) (by
                  simp only [EnOk]
                  exact ⟨vst.mem.B.length, 0, 0, vst.tm, by simp, by simp, (maskT_rep S.tm).ext (List.prefix_refl _) (pre_app _ _)⟩)
                obtain ⟨v, m', α', β', h5, h6, h7, S2, _⟩ := h2 S1 (RepL.cons (v := .yld vst.mem.B.length) (vs := vcaps) (by
                  simp only [Rep]
                  exact ⟨vst.mem.B.length, 0, 0, by rw [← hlen]; simp, rfl⟩) (h4.ext (List.prefix_refl _) (pre_app _ _)))
                have hb : β'[st.mem.H.length]? = some (some (vst.mem.B.length, 0, 0)) := get_pre h7 (by rw [← hlen]; simp)
                have hE := S2.H _ _ he
                simp only [EnOk] at hE
                obtain ⟨b, ver, n, tm', hb', hB, htm⟩ := hE
                rw [hb] at hb'
                injection hb' with hb'; injection hb' with hb'
                simp only [Prod.mk.injEq] at hb'
                obtain ⟨rfl, rfl, rfl⟩ := hb'
                have S3 := S2.setB (hi' := m'.hi) he rfl hb (e' := .loop .exhausted pend tm ps' as' bo' pt) (bb := .loop .exhausted pend tm' ps' as' bo') (by
                  simp only [EnOk]
                  exact ⟨_, 0, 0, tm', hb, by simp [S2.ltB _ _ _ _ hb], htm⟩)
                have hpb : β <+: β' := (pre_app _ _).trans h7
                refine ⟨{ vst with mem := { m' with B := m'.B.set vst.mem.B.length (.loop .exhausted pend tm' ps' as' bo') } }, α', β', ?_, h6, ⟨S.tm.ext h6 hpb, S3, S.df.ext h6 hpb, S.rd⟩⟩
                simp only [exec]
                rw [if_neg (by rw [S.rd]; exact hrd)]
                simp only [h3, h5, hB]
                rw [if_neg hs]
                cases pend with
                | none => cases hpe; rfl
                | some c => cases c <;> first | (cases hpe; rfl) | cases hpe
              split at h1
              · exact ⟨_, h1, key .normal rfl⟩
              · exact ⟨_, h1, key .ret rfl⟩
              · rename_i id
                exact ⟨_, h1, key (.exit id) rfl⟩
              · cases h1
            · cases h1
        · cases h1
      · cases h
  | .scope _, p, st, k, r, h => by simp [execWK] at h
  | .goto _, p, st, k, r, h => by simp [execWK] at h
  | .refuse _, p, st, k, r, h => by simp [execWK] at h
end Go.Proofs.YtpdgbhjhodhkiaaGreatDoor.AI
