/- Typed values: calls, regions, code. -/
import Derived.Test.YtpdgbhjhodhkiaaGreatDoorW7
set_option linter.unusedVariables false
set_option linter.unusedSimpArgs false
namespace Go.Proofs.YtpdgbhjhodhkiaaGreatDoor.AI
open Go
variable {T : Nat → Type} {C : Cod T} {R : Type} {P : Program}

/-- What a call answers whose arguments are closed off. -/
noncomputable def pres (cfg : Cfg) (f : FuncId) (args : List V) : Option V := (callW cfg (.fn f) args Mem.empty).bind fun (v, m') => shut m'.B 0 v
/-- What a call answers that only reads the memory. -/
noncomputable def fres (cfg : Cfg) (f : FuncId) (args : List V) (m : Mem) : Option V :=
  (callW cfg (.fn f) args { m with la := m.A.length, lb := m.B.length }).bind fun (v, m') => shut m'.B m.B.length v

/-! ### Closing off -/
mutual
def sealK (wm : WM T) : W T → (W T → Option R) → Option R
  | .own k h, kk =>
    match wm.H[h]? with
    | some (.rows k' l) => if k' = k ∧ wm.lh ≤ h then kk (.row k' l false) else none
    | _ => none
  | .view k h off len, kk =>
    match wm.H[h]? with
    | some (.rows k' l) => if k' = k ∧ wm.lh ≤ h then cnd (decide (off + len ≤ l.length)) (kk (.row k' ((l.drop off).take len) false)) none else none
    | _ => none
  | .agg ws, kk => sealLK wm ws fun l => kk (.agg l)
  | .tup ws, kk => sealLK wm ws fun l => kk (.tup l)
  | w, kk => if W.noref w = true then kk w else none
def sealLK (wm : WM T) : List (W T) → (List (W T) → Option R) → Option R
  | [], kk => kk []
  | w :: ws, kk => sealK wm w fun x => sealLK wm ws fun xs => kk (x :: xs)
end
mutual
theorem sealK_sound (ok : CodOk C) {wm : WM T} : ∀ (w : W T) {k : W T → Option R} {r : R}, sealK wm w k = some r →
    ∃ w', k w' = some r ∧ W.noref w' = true ∧ ∀ {bs α β m v}, WSim bs C α β wm m → Rep C α β w v → ∃ v', shut m.B m.lb v = some v' ∧ Rep C [] [] w' v'
  | .own kk hh, k, r, h => by
    simp only [sealK] at h
    split at h
    · rename_i k' l he
      split at h
      · rename_i hk
        obtain ⟨rfl, hlh⟩ := hk
        refine ⟨_, h, rfl, fun {bs α β m v} S hr => ?_⟩
        simp only [Rep] at hr
        rcases S.rows he with ⟨hb', rfl⟩ | ⟨b', ver', cs, hb', hB, hcr⟩
        · rcases hr with ⟨_, rfl⟩ | ⟨b, ver, nn, hb, rfl⟩
          · exact ⟨.ro [] 0 true, rfl, by simp only [Rep]; exact ⟨[], true, rfl, fun _ => rfl, rfl⟩⟩
          · rw [hb] at hb'; cases hb'
        · rcases hr with ⟨hb, _⟩ | ⟨b, ver, nn, hb, rfl⟩
          · rw [hb] at hb'; cases hb'
          · have hb0 := hb
            rw [hb] at hb'
            injection hb' with hb'; injection hb' with hb'
            simp only [Prod.mk.injEq] at hb'
            obtain ⟨rfl, rfl, rfl⟩ := hb'
            have hlb := S.lb _ _ _ _ _ he rfl hb0 hlh
            have hlen := hcr.length ok
            refine ⟨.ro cs l.length false, ?_, by simp only [Rep]; exact ⟨cs, false, rfl, (fun h => by cases h), hcr⟩⟩
            simp only [shut, hB]
            rw [if_pos ⟨by first | rfl | trivial, hlb⟩]
            unfold sub
            rw [if_pos (by omega)]
            simp [← hlen]
      · cases h
    · cases h
  | .view kk hh off len, k, r, h => by
    simp only [sealK] at h
    split at h
    · rename_i k' l he
      split at h
      · rename_i hk
        obtain ⟨rfl, hlh⟩ := hk
        obtain ⟨h1, h⟩ := cond_some h
        have h1 := of_decide_eq_true h1
        refine ⟨_, h, rfl, fun {bs α β m v} S hr => ?_⟩
        have hln : ((l.drop off).take len).length = len := by simp; omega
        simp only [Rep] at hr
        rcases S.rows he with ⟨hb', rfl⟩ | ⟨b', ver', cs, hb', hB, hcr⟩
        · rcases hr with ⟨_, rfl, rfl, fl, rfl⟩ | ⟨b, ver, nn, hb, rfl⟩
          · exact ⟨.ro [] 0 fl, rfl, by simp only [Rep]; exact ⟨[], fl, rfl, (fun h => by cases h), rfl⟩⟩
          · rw [hb] at hb'; cases hb'
        · rcases hr with ⟨hb, _⟩ | ⟨b, ver, nn, hb, rfl⟩
          · rw [hb] at hb'; cases hb'
          · have hb0 := hb
            rw [hb] at hb'
            injection hb' with hb'; injection hb' with hb'
            simp only [Prod.mk.injEq] at hb'
            obtain ⟨rfl, rfl, rfl⟩ := hb'
            have hlb := S.lb _ _ _ _ _ he rfl hb0 hlh
            have e := hcr.length ok
            refine ⟨.ro ((cs.drop (off * C.size k')).take (len * C.size k')) len false, ?_, ?_⟩
            · simp only [shut, hB]
              rw [if_pos ⟨by first | rfl | trivial, hlb⟩]
              unfold sub
              rw [if_pos]
              · rfl
              · rw [e, ← Nat.add_mul]; exact Nat.mul_le_mul_right _ h1
            · simp only [Rep]
              exact ⟨_, false, by rw [hln], (fun h => by cases h), (hcr.drop ok off).take ok len⟩
      · cases h
    · cases h
  | .agg ws, k, r, h => by
    simp only [sealK] at h
    obtain ⟨ws', h1, h2, h3⟩ := sealLK_sound ok ws h
    refine ⟨_, h1, by simpa only [W.noref] using h2, fun S hr => ?_⟩
    simp only [Rep] at hr
    obtain ⟨vs, rfl, hr⟩ := hr
    obtain ⟨vs', h4, h5⟩ := h3 S hr
    exact ⟨.agg vs', by simp only [shut, h4, Option.map_some], by simp only [Rep]; exact ⟨_, rfl, h5⟩⟩
  | .tup ws, k, r, h => by
    simp only [sealK] at h
    obtain ⟨ws', h1, h2, h3⟩ := sealLK_sound ok ws h
    refine ⟨_, h1, by simpa only [W.noref] using h2, fun S hr => ?_⟩
    simp only [Rep] at hr
    obtain ⟨vs, rfl, hr⟩ := hr
    obtain ⟨vs', h4, h5⟩ := h3 S hr
    exact ⟨.tup vs', by simp only [shut, h4, Option.map_some], by simp only [Rep]; exact ⟨_, rfl, h5⟩⟩
  | .undef, k, r, h | .ptr _ _, k, r, h | .oelem _ _ _ _, k, r, h | .map _, k, r, h | .yld _, k, r, h => by
    simp only [sealK, W.noref, Bool.false_eq_true, if_false] at h
    cases h
  | .bool _, k, r, h | .int _ _, k, r, h | .str _, k, r, h | .nilp, k, r, h | .nilsl, k, r, h | .nilm, k, r, h | .nilf, k, r, h | .nili, k, r, h | .row _ _ _, k, r, h | .relem _ _ _, k, r, h | .fn _ _, k, r, h | .ifc _ _, k, r, h => by
    simp only [sealK] at h
    split at h
    · rename_i hn
      refine ⟨_, h, hn, fun {bs α β m v} S hr => ⟨v, ?_, noref_any hr hn⟩⟩
      have hp := noref_pure hr hn
      cases v <;> first
        | (simp only [shut]; rw [if_pos hp]; done)
        | (simp [V.pure] at hp; done)
        | (exfalso; simp only [Rep] at hr; first | (cases hr; done) | (obtain ⟨_, hr, _⟩ := hr; cases hr; done) | (obtain ⟨_, _, hr, _⟩ := hr; cases hr; done))
    · cases h
theorem sealLK_sound (ok : CodOk C) {wm : WM T} : ∀ (ws : List (W T)) {k : List (W T) → Option R} {r : R}, sealLK wm ws k = some r →
    ∃ ws', k ws' = some r ∧ norefL ws' = true ∧ ∀ {bs α β m vs}, WSim bs C α β wm m → RepL C α β ws vs → ∃ vs', shutL m.B m.lb vs = some vs' ∧ RepL C [] [] ws' vs'
  | [], k, r, h => by
    simp only [sealLK] at h
    refine ⟨[], h, rfl, fun S hr => ?_⟩
    simp only [RepL] at hr
    subst hr
    exact ⟨[], rfl, RepL.nil⟩
  | w :: ws, k, r, h => by
    simp only [sealLK] at h
    obtain ⟨w', h1, h2, h3⟩ := sealK_sound ok w h
    obtain ⟨ws', h4, h5, h6⟩ := sealLK_sound ok ws h1
    refine ⟨_, h4, by simp only [norefL, h2, h5, Bool.and_self], fun S hr => ?_⟩
    simp only [RepL] at hr
    obtain ⟨v, vs, rfl, hr1, hr2⟩ := hr
    obtain ⟨v', h7, h8⟩ := h3 S hr1
    obtain ⟨vs', h9, h10⟩ := h6 S hr2
    exact ⟨v' :: vs', by simp only [shutL, h7, h9], RepL.cons h8 h10⟩
end
def scalW0 : W T → Bool
  | .bool _ | .int _ _ | .str _ | .nilp | .nilsl | .nilm | .nilf | .nili => true
  | _ => false
def scalarW : W T → Bool
  | .tup ws => ws.all scalW0
  | w => scalW0 w
theorem scalW0_sound {w : W T} (h : scalW0 w = true) {α β v} (hr : Rep C α β w v) : scalar0 v = true := by
  cases w <;> simp only [scalW0, Bool.false_eq_true] at h <;> simp only [Rep] at hr <;> subst hr <;> rfl
theorem scalarW_sound {w : W T} (h : scalarW w = true) {α β v} (hr : Rep C α β w v) : scalarV v = true := by
  cases w
  case tup ws =>
    simp only [Rep] at hr
    obtain ⟨vs, rfl, hr⟩ := hr
    simp only [scalarW] at h
    simp only [scalarV]
    induction ws generalizing vs with
    | nil => simp only [RepL] at hr; subst hr; rfl
    | cons w ws ih =>
      simp only [RepL] at hr
      obtain ⟨v, vs', rfl, h1, h2⟩ := hr
      simp only [List.all_cons, Bool.and_eq_true] at h ⊢
      exact ⟨scalW0_sound h.1 h1, ih h.2 vs' h2⟩
  all_goals
    have h' := scalW0_sound (by simpa only [scalarW] using h) hr
    cases v <;> first | exact h' | simp [scalar0] at h'

/-! ### What is handed in: calls and loops -/
structure WI (T : Nat → Type) (R : Type) where
  pur : FuncId → List (W T) → (W T → Option R) → Option R
  ext : FuncId → List (W T) → (W T → Option R) → Option R
  frz : FuncId → List (W T) → WM T → (W T → Option R) → Option R
  call : FuncId → List (W T) → WM T → (W T × WM T → Option R) → Option R
  yld : Nat → List (W T) → WM T → (W T × WM T → Option R) → Option R
  loop : Code → List Nat → WSt T → (Ex × WSt T → Option R) → Option R
  /-- Places of code that are walked once, for all ways that come there. -/
  blk : List Nat → Bool := fun _ => false
  cut : Code → List Nat → WSt T → (Ex × WSt T → Option R) → Option R := fun _ _ _ _ => none
  /-- Functions that change the memory and are walked by themselves. -/
  heap : FuncId → Bool := fun _ => false

inductive DfR (C : Cod T) (α : List Nat) (β : Bt) : List (TypeId × W T × W T) → List (TypeId × V × V) → Prop
  | nil : DfR C α β [] []
  | cons {t x y u v l l'} : Rep C α β x u → Rep C α β y v → DfR C α β l l' → DfR C α β ((t, x, y) :: l) ((t, u, v) :: l')
theorem DfR.ext {α α' β β'} (ha : α <+: α') (hb : β <+: β') {l : List (TypeId × W T × W T)} {l' : List (TypeId × V × V)} (h : DfR C α β l l') : DfR C α' β' l l' := by
  induction h with
  | nil => exact DfR.nil
  | cons h1 h2 _ ih => exact DfR.cons (h1.ext ha hb) (h2.ext ha hb) ih
structure SSim (bs : Base) (C : Cod T) (α : List Nat) (β : Bt) (st : WSt T) (vs : St) : Prop where
  tm : RepL C α β st.tm vs.tm
  mem : WSim bs C α β st.mem vs.mem
  df : DfR C α β st.df vs.df
  rd : vs.rd = st.rd

/-- What a handler of calls must bring. -/
def CallSaid (C : Cod T) (ws : List (W T)) (wm wm' : WM T) (w : W T) (o : List V → Mem → Option (V × Mem)) : Prop :=
  ∀ {bs α β m vs}, WSim bs C α β wm m → RepL C α β ws vs → Goes C wm wm' w bs α β (o vs m)
def LoopSaid (cfg : Cfg) (C : Cod T) (c : Code) (st : WSt T) (x : Ex × WSt T) : Prop :=
  ∀ {bs α β vst}, SSim bs C α β st vst → ∃ vx α' β', exec cfg (callW cfg) loopW c vst = some (x.1, vx) ∧ α <+: α' ∧ SSim bs C α' β' x.2 vx

structure IOk (cfg : Cfg) (C : Cod T) (I : WI T R) : Prop where
  pur : ∀ {f ws k r}, I.pur f ws k = some r → ∃ w, k w = some r ∧ ∀ {vs}, RepL C [] [] ws vs → ∃ v, pres cfg f vs = some v ∧ Rep C [] [] w v
  ext : ∀ {f ws k r}, I.ext f ws k = some r → ∃ w, k w = some r ∧ ∀ {vs}, RepL C [] [] ws vs → ∃ v, cfg.ext f vs = some v ∧ Rep C [] [] w v ∧ V.pure v = true
  frz : ∀ {f ws wm k r}, I.frz f ws wm k = some r → ∃ w, k w = some r ∧ ∀ {bs α β m vs}, WSim bs C α β wm m → RepL C α β ws vs → ∃ v, fres cfg f vs m = some v ∧ Rep C [] [] w v
  call : ∀ {f ws wm k r}, I.call f ws wm k = some r → ∃ w wm', k (w, wm') = some r ∧ CallSaid C ws wm wm' w (callW cfg (.fn f))
  yld : ∀ {h ws wm k r}, I.yld h ws wm k = some r → ∃ w wm', k (w, wm') = some r ∧ ∀ {bs α β m vs b ver n}, WSim bs C α β wm m → β[h]? = some (some (b, ver, n)) → RepL C α β ws vs → Goes C wm wm' w bs α β (callW cfg (.yld b) vs m)
  loop : ∀ {c p st k r}, I.loop c p st k = some r → ∃ x, k x = some r ∧ LoopSaid cfg C (.loop c) st x
  cut : ∀ {c p st k r}, I.cut c p st k = some r → ∃ x, k x = some r ∧ LoopSaid cfg C c st x

/-! ### Rows that a call keeps -/
mutual
def W.used : W T → List Nat
  | .own _ h => [h]
  | .view _ h _ _ => [h]
  | .agg ws => usedWL ws
  | .tup ws => usedWL ws
  | _ => []
def usedWL : List (W T) → List Nat
  | [] => []
  | w :: ws => W.used w ++ usedWL ws
end
def killAll : List Nat → WM T → WM T
  | [], wm => wm
  | h :: hs, wm => killAll hs { wm with H := wm.H.set h .dead }
theorem killAll_get : ∀ (hs : List Nat) (wm : WM T) (h : Nat) (e : En T), (killAll hs wm).H[h]? = some e → e.live = true → wm.H[h]? = some e ∧ h ∉ hs
  | [], wm, h, e, he, _ => ⟨he, by simp⟩
  | h' :: hs, wm, h, e, he, hl => by
    obtain ⟨h1, h2⟩ := killAll_get hs _ h e he hl
    simp only at h1
    by_cases heq : h' = h
    · subst heq
      rw [List.getElem?_set] at h1
      simp only [if_true] at h1
      split at h1
      · injection h1 with h1
        subst h1
        cases hl
      · cases h1
    · rw [List.getElem?_set, if_neg heq] at h1
      refine ⟨h1, ?_⟩
      simp only [List.mem_cons, not_or]
      exact ⟨fun h => heq h.symm, h2⟩
theorem WSim.killAll : ∀ (hs : List Nat) {wm : WM T} {bs α β m}, WSim bs C α β wm m → WSim bs C α β (killAll hs wm) m
  | [], _, _, _, _, _, S => S
  | h :: hs, _, _, _, _, _, S => WSim.killAll hs (S.kill h)
theorem WSim.frozen {bs : Base} {α : List Nat} {β : Bt} {wm : WM T} {m : Mem} (S : WSim bs C α β wm m) (us : List Nat) (hd : ∀ (h : Nat) (e : En T) b ver n, wm.H[h]? = some e → e.live = true → β[h]? = some (some (b, ver, n)) → b ∉ us) (hm : ∀ b ∈ us, ∃ (h : Nat) (ver n : Nat), β[h]? = some (some (b, ver, n))) :
    WSim bs C α β wm { m with B := frzB us 0 m.B } := 
  have hne : ∀ b, b ∉ us → (AI.frzB us 0 m.B)[b]? = m.B[b]? := by
    intro b hb
    rw [frzB_get, Nat.zero_add]
    have : us.contains b = false := by simpa using hb
    simp only [this, Bool.false_eq_true, if_false, Option.map_id', id]
  { S with
    A := S.A
    la := S.la
    H := fun h e he => (S.H h e he).mem fun hl b ver n hb => hne b (hd h e b ver n he hl hb)
    lb := S.lb
    ltB := by simp only [frzB_length]; exact S.ltB
    fa := S.fa
    fb := fun b hb hn => by
      rw [← S.fb b hb hn]
      refine hne b fun hbu => ?_
      obtain ⟨h, ver, n, h1⟩ := hm b hbu
      rcases S.nb h b ver n h1 with ⟨h', ver', n', h2⟩ | h2
      · exact hn h' ver' n' h2
      · omega
    lenA0 := S.lenA0
    lenB0 := by simp only [frzB_length]; exact S.lenB0
    la0 := S.la0
    lb0 := S.lb0 }
mutual
theorem sealK_go {wm : WM T} : ∀ (w : W T) {k : W T → Option R} {r : R}, sealK wm w k = some r → ∃ w', k w' = some r
  | .own kk hh, k, r, h => by
    simp only [sealK] at h
    split at h
    · split at h
      · exact ⟨_, h⟩
      · cases h
    · cases h
  | .view kk hh off len, k, r, h => by
    simp only [sealK] at h
    split at h
    · split at h
      · exact ⟨_, (cond_some h).2⟩
      · cases h
    · cases h
  | .agg ws, k, r, h => by
    simp only [sealK] at h
    obtain ⟨ws', h⟩ := sealLK_go ws h
    exact ⟨_, h⟩
  | .tup ws, k, r, h => by
    simp only [sealK] at h
    obtain ⟨ws', h⟩ := sealLK_go ws h
    exact ⟨_, h⟩
  | .undef, k, r, h | .ptr _ _, k, r, h | .oelem _ _ _ _, k, r, h | .map _, k, r, h | .yld _, k, r, h
  | .bool _, k, r, h | .int _ _, k, r, h | .str _, k, r, h | .nilp, k, r, h | .nilsl, k, r, h | .nilm, k, r, h | .nilf, k, r, h | .nili, k, r, h | .row _ _ _, k, r, h | .relem _ _ _, k, r, h | .fn _ _, k, r, h | .ifc _ _, k, r, h => by
    simp only [sealK] at h
    split at h
    · exact ⟨_, h⟩
    · cases h
theorem sealLK_go {wm : WM T} : ∀ (ws : List (W T)) {k : List (W T) → Option R} {r : R}, sealLK wm ws k = some r → ∃ ws', k ws' = some r
  | [], k, r, h => ⟨_, by simpa only [sealLK] using h⟩
  | w :: ws, k, r, h => by
    simp only [sealLK] at h
    obtain ⟨w', h1⟩ := sealK_go w h
    obtain ⟨ws', h2⟩ := sealLK_go ws h1
    exact ⟨_, h2⟩
end
mutual
theorem sealK_used {wm : WM T} : ∀ (w : W T) {k : W T → Option R} {r : R}, sealK wm w k = some r →
    ∀ {α β v}, Rep C α β w v → ∀ b ∈ V.used v, ∃ h ∈ W.used w, ∃ e ver n, wm.H[h]? = some e ∧ e.live = true ∧ β[h]? = some (some (b, ver, n))
  | .own kk hh, k, r, h, α, β, v, hr, b, hb => by
    simp only [sealK] at h
    split at h
    · rename_i k' l he
      simp only [Rep] at hr
      rcases hr with ⟨_, rfl⟩ | ⟨b', ver, nn, hb', rfl⟩
      · simp [V.used] at hb
      · simp only [V.used, List.mem_singleton] at hb
        subst hb
        exact ⟨hh, by simp [W.used], _, ver, nn, he, rfl, hb'⟩
    · cases h
  | .view kk hh off len, k, r, h, α, β, v, hr, b, hb => by
    simp only [sealK] at h
    split at h
    · rename_i k' l he
      simp only [Rep] at hr
      rcases hr with ⟨_, _, _, _, rfl⟩ | ⟨b', ver, nn, hb', rfl⟩
      · simp [V.used] at hb
      · simp only [V.used, List.mem_singleton] at hb
        subst hb
        exact ⟨hh, by simp [W.used], _, ver, nn, he, rfl, hb'⟩
    · cases h
  | .agg ws, k, r, h, α, β, v, hr, b, hb => by
    simp only [sealK] at h
    simp only [Rep] at hr
    obtain ⟨vs, rfl, hr⟩ := hr
    simp only [W.used]
    exact sealLK_used ws h hr b (by simpa only [V.used] using hb)
  | .tup ws, k, r, h, α, β, v, hr, b, hb => by
    simp only [sealK] at h
    simp only [Rep] at hr
    obtain ⟨vs, rfl, hr⟩ := hr
    simp only [W.used]
    exact sealLK_used ws h hr b (by simpa only [V.used] using hb)
  | .undef, k, r, h, _, _, _, _, _, _ | .ptr _ _, k, r, h, _, _, _, _, _, _ | .oelem _ _ _ _, k, r, h, _, _, _, _, _, _ | .map _, k, r, h, _, _, _, _, _, _ | .yld _, k, r, h, _, _, _, _, _, _ => by
    simp only [sealK, W.noref, Bool.false_eq_true, if_false] at h
    cases h
  | .bool _, k, r, h, _, _, v, hr, b, hb | .int _ _, k, r, h, _, _, v, hr, b, hb | .str _, k, r, h, _, _, v, hr, b, hb | .nilp, k, r, h, _, _, v, hr, b, hb | .nilsl, k, r, h, _, _, v, hr, b, hb | .nilm, k, r, h, _, _, v, hr, b, hb | .nilf, k, r, h, _, _, v, hr, b, hb | .nili, k, r, h, _, _, v, hr, b, hb => by
    simp only [Rep] at hr
    subst hr
    simp [V.used] at hb
  | .row _ _ _, k, r, h, _, _, v, hr, b, hb => by
    simp only [Rep] at hr
    obtain ⟨_, _, rfl, _⟩ := hr
    simp [V.used] at hb
  | .relem _ _ _, k, r, h, _, _, v, hr, b, hb => by
    simp only [Rep] at hr
    obtain ⟨_, _, rfl, _⟩ := hr
    simp [V.used] at hb
  | .fn _ _, k, r, h, _, _, v, hr, b, hb => by
    simp only [Rep] at hr
    obtain ⟨_, rfl, _⟩ := hr
    simp [V.used] at hb
  | .ifc _ _, k, r, h, _, _, v, hr, b, hb => by
    simp only [Rep] at hr
    obtain ⟨_, rfl, _⟩ := hr
    simp [V.used] at hb
theorem sealLK_used {wm : WM T} : ∀ (ws : List (W T)) {k : List (W T) → Option R} {r : R}, sealLK wm ws k = some r →
    ∀ {α β vs}, RepL C α β ws vs → ∀ b ∈ usedL vs, ∃ h ∈ usedWL ws, ∃ e ver n, wm.H[h]? = some e ∧ e.live = true ∧ β[h]? = some (some (b, ver, n))
  | [], k, r, h, α, β, vs, hr, b, hb => by
    simp only [RepL] at hr
    subst hr
    simp [usedL] at hb
  | w :: ws, k, r, h, α, β, vs, hr, b, hb => by
    simp only [sealLK] at h
    simp only [RepL] at hr
    obtain ⟨v, vs', rfl, hr1, hr2⟩ := hr
    simp only [usedL, List.mem_append] at hb
    simp only [usedWL, List.mem_append]
    rcases hb with hb | hb
    · obtain ⟨h', h1, h2⟩ := sealK_used w h hr1 b hb
      exact ⟨h', .inl h1, h2⟩
    · obtain ⟨w', g1⟩ := sealK_go w h
      obtain ⟨h', h1, h2⟩ := sealLK_used ws g1 hr2 b hb
      exact ⟨h', .inr h1, h2⟩
end

variable {cfg : Cfg} {wc : WCfg T} {I : WI T R}
def doCallWK (cfg : Cfg) (I : WI T R) (wm : WM T) (draw : Bool) (f : FuncId) (args : List (W T)) (k : W T × WM T → Option R) : Option R :=
  match cfg.md f with
  | .keep => if draw then none else I.call f args wm k
  | .ext => if norefL args = true then I.ext f args fun w => if W.free w = true then k (w, wm) else none else none
  | .pure => sealLK wm args fun args' => I.pur f args' fun w => if W.noref w = true then (if (norefL args || scalarW w) = true then k (w, wm) else if draw then none else k (w, killAll (usedWL args) wm)) else none
  | .frozen => I.frz f args wm fun w => if W.noref w = true then k (w, wm) else none
theorem pureL_all {vs : List V} (h : pureL vs = true) : vs.all V.pure = true := by
  induction vs with
  | nil => rfl
  | cons v vs ih =>
    simp only [pureL, Bool.and_eq_true] at h
    simp only [List.all_cons, Bool.and_eq_true]
    exact ⟨h.1, ih h.2⟩
theorem doCallWK_sound (ok : CodOk C) (io : IOk cfg C I) {wm : WM T} {draw : Bool} {f : FuncId} {args : List (W T)} {k : W T × WM T → Option R} {r : R} (h : doCallWK cfg I wm draw f args k = some r) :
    ∃ w wm', k (w, wm') = some r ∧ CallSaid C args wm wm' w (doCall cfg (callW cfg) draw f) := by
  unfold doCallWK at h
  split at h
  · rename_i hmd
    split at h
    · cases h
    · rename_i hd
      obtain ⟨w, wm', h1, h2⟩ := io.call h
      refine ⟨w, wm', h1, fun S hr => ?_⟩
      simp only [doCall, hmd]
      rw [if_neg hd]
      exact h2 S hr
  · rename_i hmd
    split at h
    · rename_i hn
      obtain ⟨w, h1, h2⟩ := io.ext h
      split at h1
      · rename_i hw
        refine ⟨w, wm, h1, fun {bs α β m vs} S hr => ?_⟩
        obtain ⟨v, h3, h4, hpv⟩ := h2 (norefL_any hr hn)
        refine ⟨v, m, α, β, ?_, List.prefix_refl _, List.prefix_refl _, S, free_any h4 hw⟩
        simp only [doCall, hmd, h3, Option.bind_some]
        rw [if_pos ⟨pureL_all (norefL_pure hr hn), hpv⟩]
      · cases h1
    · cases h
  · rename_i hmd
    have hus := @sealLK_used T C R wm args _ r h
    obtain ⟨args', h1, hn1, h2⟩ := sealLK_sound ok args h
    obtain ⟨w, h3, h4⟩ := io.pur h1
    split at h3
    · rename_i hwn
      split at h3
      · rename_i hw
        refine ⟨w, wm, h3, fun {bs α β m vs} S hr => ?_⟩
        obtain ⟨vs', h5, h6⟩ := h2 S hr
        obtain ⟨v, h7, h8⟩ := h4 h6
        refine ⟨v, m, α, β, ?_, List.prefix_refl _, List.prefix_refl _, S, noref_any h8 hwn⟩
        unfold pres at h7
        obtain ⟨⟨u, m'⟩, h9, h10⟩ := Option.bind_eq_some_iff.1 h7
        simp only [doCall, hmd, h5, h9, Option.bind_some, h10]
        have : (pureL vs || scalarV v) = true := by
          simp only [Bool.or_eq_true] at hw ⊢
          rcases hw with h | h
          · exact .inl (norefL_pure hr h)
          · exact .inr (scalarW_sound h h8)
        rw [if_pos this]
      · split at h3
        · cases h3
        · rename_i hdr
          refine ⟨w, killAll (usedWL args) wm, h3, fun {bs α β m vs} S hr => ?_⟩
          obtain ⟨vs', h5, h6⟩ := h2 S hr
          obtain ⟨v, h7, h8⟩ := h4 h6
          unfold pres at h7
          obtain ⟨⟨u, m'⟩, h9, h10⟩ := Option.bind_eq_some_iff.1 h7
          have SF : WSim bs C α β (killAll (usedWL args) wm) { m with B := frzB (usedL vs) 0 m.B } := by
            refine WSim.frozen (WSim.killAll _ S) _ (fun h e b ver n he hl hb hbu => ?_) (fun b hb => ?_)
            · obtain ⟨g1, g2⟩ := killAll_get _ _ _ _ he hl
              obtain ⟨h', k1, e', ver', n', k2, k3, k4⟩ := hus hr b hbu
              have := S.injH _ _ _ _ _ _ _ _ _ g1 k2 hl k3 hb k4
              subst this
              exact g2 k1
            · obtain ⟨h', k1, e', ver', n', k2, k3, k4⟩ := hus hr b hb
              exact ⟨h', ver', n', k4⟩
          by_cases hc : (pureL vs || scalarV v) = true
          · refine ⟨v, m, α, β, ?_, List.prefix_refl _, List.prefix_refl _, WSim.killAll _ S, noref_any h8 hwn⟩
            simp only [doCall, hmd, h5, h9, Option.bind_some, h10]
            rw [if_pos hc]
          · refine ⟨v, _, α, β, ?_, List.prefix_refl _, List.prefix_refl _, SF, noref_any h8 hwn⟩
            simp only [doCall, hmd, h5, h9, Option.bind_some, h10]
            rw [if_neg hc, if_neg hdr]
    · cases h3
  · rename_i hmd
    obtain ⟨w, h1, h2⟩ := io.frz h
    split at h1
    · rename_i hw
      refine ⟨w, wm, h1, fun {bs α β m vs} S hr => ?_⟩
      obtain ⟨v, h7, h8⟩ := h2 S hr
      refine ⟨v, m, α, β, ?_, List.prefix_refl _, List.prefix_refl _, S, noref_any h8 hw⟩
      unfold fres at h7
      obtain ⟨⟨u, m'⟩, h9, h10⟩ := Option.bind_eq_some_iff.1 h7
      simp only [doCall, hmd, h9, Option.bind_some, h10, Option.map_some]
    · cases h1
def callWK (cfg : Cfg) (wc : WCfg T) (I : WI T R) (wm : WM T) (draw : Bool) (ρ : Operand → W T) (c : Go.Call) (k : W T × WM T → Option R) : Option R :=
  match c.callee with
  | .builtin b => builtinWK wc cfg.P wm b c.argTypes.toList (c.args.toList.map ρ) k
  | .value f =>
    match ρ f with
    | .fn f caps => doCallWK cfg I wm draw f (c.args.toList.map ρ ++ caps) k
    | .yld h => if draw then none else I.yld h (c.args.toList.map ρ) wm k
    | _ => none
  | .invoke _ _ => none
theorem callWK_sound (ok : CodOk wc.C) (io : IOk cfg wc.C I) {wm : WM T} {draw : Bool} {ρ : Operand → W T} {c : Go.Call} {k : W T × WM T → Option R} {r : R} (h : callWK cfg wc I wm draw ρ c k = some r) :
    ∃ w wm', k (w, wm') = some r ∧ ∀ {bs α β m ρv}, WSim bs wc.C α β wm m → (∀ o, Rep wc.C α β (ρ o) (ρv o)) → Goes wc.C wm wm' w bs α β (callV cfg (callW cfg) draw ρv m c) := by
  unfold callWK at h
  split at h
  · rename_i b hc
    obtain ⟨w, wm', h1, h2⟩ := builtinWK_sound ok h
    refine ⟨w, wm', h1, fun S hρ => ?_⟩
    simp only [callV, hc]
    exact h2 S (repL_map hρ _)
  · rename_i f hc
    split at h
    · rename_i f' caps hf
      obtain ⟨w, wm', h1, h2⟩ := doCallWK_sound ok io h
      refine ⟨w, wm', h1, fun S hρ => ?_⟩
      have h3 := hρ f
      rw [hf] at h3
      simp only [Rep] at h3
      obtain ⟨vs, h3, h4⟩ := h3
      simp only [callV, hc, h3]
      exact h2 S ((repL_map hρ _).append h4)
    · rename_i hh hf
      split at h
      · cases h
      · rename_i hd
        obtain ⟨w, wm', h1, h2⟩ := io.yld h
        refine ⟨w, wm', h1, fun S hρ => ?_⟩
        have h3 := hρ f
        rw [hf] at h3
        simp only [Rep] at h3
        obtain ⟨b, ver, n, hb, h3⟩ := h3
        simp only [callV, hc, h3]
        rw [if_neg hd]
        exact h2 S hb (repL_map hρ _)
    · cases h
  · cases h

/-! ### Regions -/
def putW (tm : List (W T)) (d : Option Tmp) (w : W T) : List (W T) :=
  match d with
  | some d => tm.set d w
  | none => tm
def guardWK (ops : Array Oper) (st : WSt T) (o : Oper) (kk : Bool → WSt T → Option R) : Option R :=
  match o.guard with
  | none => kk true st
  | some (j, want) =>
    match (ops[j]?).bind (·.dst) with
    | none => kk false st
    | some d =>
      match st.tm[d]? with
      | some (.bool b) => cnd b (kk want { st with tm := st.tm.set d (.bool true) }) (kk (!want) { st with tm := st.tm.set d (.bool false) })
      | some (.tup []) => kk false st
      | _ => none
def stepWK (cfg : Cfg) (wc : WCfg T) (I : WI T R) (draw : Bool) (ops : Array Oper) (base i : Nat) (st : WSt T) (k : WSt T → Option R) : Option R :=
  match ops[i]? with
  | none => k st
  | some o => guardWK ops st o fun b st =>
    cnd b (match o.op with
      | .call c => callWK cfg wc I st.mem draw (evalW st.tm) c fun (w, wm) => k { st with tm := putW st.tm o.dst w, mem := wm }
      | .defer { callee := .builtin .delete, args, argTypes } =>
        match argTypes.toList, args.toList.map (evalW st.tm) with
        | t :: _, [x, key] => if (st.rd || draw) = true then none else k { st with tm := putW st.tm o.dst (.tup []), df := (t, x, key) :: st.df }
        | _, _ => none
      | op => opWK wc cfg.P st.mem (base + slotOf ops i) (evalW st.tm) op fun (w, wm) => k { st with tm := putW st.tm o.dst w, mem := wm })
      (k { st with tm := putW st.tm o.dst (.tup []) })
theorem put_rep {tm : List (W T)} {vs : List V} {α β} (h : RepL C α β tm vs) (d : Option Tmp) {w : W T} {v : V} (hw : Rep C α β w v) : RepL C α β (putW tm d w) (putV vs d v) := by
  cases d with
  | none => exact h
  | some d => exact h.set d hw
theorem rep_unit {α β} : Rep C α β (.tup [] : W T) (.tup []) := by simp only [Rep]; exact ⟨[], rfl, RepL.nil⟩
theorem guardWK_sound {ops : Array Oper} {st : WSt T} {o : Oper} {kk : Bool → WSt T → Option R} {r : R} (h : guardWK ops st o kk = some r) :
    ∃ b st', kk b st' = some r ∧ ∀ {bs α β vst}, SSim bs C α β st vst → guardV ops vst.tm o = some b ∧ SSim bs C α β st' vst := by
  unfold guardWK at h
  split at h
  · rename_i hg
    exact ⟨true, st, h, fun S => ⟨by simp only [guardV, hg], S⟩⟩
  · rename_i j want hg
    split at h
    · rename_i hd
      exact ⟨false, st, h, fun S => ⟨by simp only [guardV, hg, hd], S⟩⟩
    · rename_i d hd
      split at h
      · rename_i b hb
        have know : ∀ {bs α β vst}, SSim bs C α β st vst → vst.tm[d]? = some (.bool b) := by
          intro bs α β vst S
          obtain ⟨v, h1, h2⟩ := S.tm.get hb
          simp only [Rep] at h2; subst h2
          exact h1
        rcases cond_cases h with ⟨rfl, h⟩ | ⟨rfl, h⟩
        · refine ⟨want, _, h, fun S => ⟨by simp only [guardV, hg, hd, know S]; cases want <;> rfl, ⟨?_, S.mem, S.df, S.rd⟩⟩⟩
          have := S.tm.set d (w := .bool true) (v := .bool true) (by simp only [Rep])
          rw [set_self (know S)] at this
          exact this
        · refine ⟨!want, _, h, fun S => ⟨by simp only [guardV, hg, hd, know S]; cases want <;> rfl, ⟨?_, S.mem, S.df, S.rd⟩⟩⟩
          have := S.tm.set d (w := .bool false) (v := .bool false) (by simp only [Rep])
          rw [set_self (know S)] at this
          exact this
      · rename_i hb
        refine ⟨false, st, h, fun S => ⟨?_, S⟩⟩
        obtain ⟨v, h1, h2⟩ := S.tm.get hb
        simp only [Rep] at h2
        obtain ⟨vs, rfl, h2⟩ := h2
        simp only [RepL] at h2; subst h2
        simp only [guardV, hg, hd, h1]
      · cases h
/-- The variables of a region have their places. -/
def Slots (ops : Array Oper) (α : List Nat) (wb vb : Nat) : Prop := ∀ s, s < ops.toList.countP isAlloc → α[wb + s]? = some (vb + s)
theorem slotW_lt {ops : Array Oper} {i : Nat} {o : Oper} (h : ops[i]? = some o) (ha : isAlloc o = true) : slotOf ops i < ops.toList.countP isAlloc := by
  have h' : ops.toList[i]? = some o := by simpa using h
  obtain ⟨hl, hx⟩ := List.getElem?_eq_some_iff.1 h'
  unfold slotOf
  conv => rhs; rw [← List.take_append_drop i ops.toList]
  rw [List.countP_append, List.drop_eq_getElem_cons hl, hx, List.countP_cons, ha]
  simp
theorem stepWK_sound (ok : CodOk wc.C) (io : IOk cfg wc.C I) {draw : Bool} {ops : Array Oper} {base i : Nat} {st : WSt T} {k : WSt T → Option R} {r : R} (h : stepWK cfg wc I draw ops base i st k = some r) :
    ∃ st', k st' = some r ∧ ∀ {bs α β vst vb}, SSim bs wc.C α β st vst → Slots ops α base vb → ∃ vst' α' β', stepAt cfg (callW cfg) draw ops vb i vst = some vst' ∧ α <+: α' ∧ SSim bs wc.C α' β' st' vst' := by
  unfold stepWK at h
  split at h
  · rename_i hi
    exact ⟨st, h, fun {bs α β vst vb} S _ => ⟨vst, α, β, by simp only [stepAt, hi], List.prefix_refl _, S⟩⟩
  · rename_i o hi
    obtain ⟨b, st1, h1, h2⟩ := guardWK_sound (C := wc.C) h
    cases b with
    | false =>
      simp only [cnd_false] at h1
      refine ⟨_, h1, fun {bs α β vst vb} S _ => ?_⟩
      obtain ⟨h3, S1⟩ := h2 S
      exact ⟨{ vst with tm := putV vst.tm o.dst (.tup []) }, α, β, by simp only [stepAt, hi, h3], List.prefix_refl _, ⟨put_rep S1.tm _ rep_unit, S1.mem, S1.df, S1.rd⟩⟩
    | true =>
      simp only [cnd_true] at h1
      split at h1
      · rename_i c hop
        obtain ⟨w, wm', h3, h4⟩ := callWK_sound ok io h1
        refine ⟨_, h3, fun {bs α β vst vb} S _ => ?_⟩
        obtain ⟨h5, S1⟩ := h2 S
        obtain ⟨v, m', α', β', h6, h7, h8, h9, h10⟩ := h4 S1.mem (rep_eval S1.tm)
        refine ⟨{ vst with tm := putV vst.tm o.dst v, mem := m' }, α', β', ?_, h7, ⟨put_rep (S1.tm.ext h7 h8) _ h10, h9, S1.df.ext h7 h8, S1.rd⟩⟩
        simp only [stepAt, hi, h5, hop, h6]
        rfl
      · rename_i args argTypes hop
        split at h1
        · rename_i t ts x key hts hargs
          split at h1
          · cases h1
          · rename_i hrd
            refine ⟨_, h1, fun {bs α β vst vb} S _ => ?_⟩
            obtain ⟨h5, S1⟩ := h2 S
            have hl := repL_map (rep_eval S1.tm) args.toList
            rw [hargs] at hl
            simp only [RepL] at hl
            obtain ⟨v1, vs1, e1, r1, v2, vs2, e2, r2, e3⟩ := hl
            subst e3 e2
            refine ⟨{ vst with tm := putV vst.tm o.dst (.tup []), df := (t, v1, v2) :: vst.df }, α, β, ?_, List.prefix_refl _, ⟨put_rep S1.tm _ rep_unit, S1.mem, DfR.cons r1 r2 S1.df, S1.rd⟩⟩
            simp only [stepAt, hi, h5, hop, hts, e1]
            rw [if_neg (by rw [S1.rd]; exact hrd)]
        · cases h1
      · rename_i hnc hnd
        obtain ⟨w, wm', h3, h4⟩ := opWK_sound ok (draw := draw) h1
        refine ⟨_, h3, fun {bs α β vst vb} S hs => ?_⟩
        obtain ⟨h5, S1⟩ := h2 S
        obtain ⟨v, m', α', β', h6, h7, h8, h9, h10⟩ := h4 (slotv := vb + slotOf ops i) S1.mem (rep_eval S1.tm) (fun ha => by
          have := hs _ (slotW_lt hi (by unfold isAlloc; unfold isAlloc' at ha; exact ha))
          rw [this])
        refine ⟨{ vst with tm := putV vst.tm o.dst v, mem := m' }, α', β', ?_, h7, ⟨put_rep (S1.tm.ext h7 h8) _ h10, h9, S1.df.ext h7 h8, S1.rd⟩⟩
        unfold stepAt
        simp only [hi, h5]
        rw [h6]
        rfl
def runWK (cfg : Cfg) (wc : WCfg T) (I : WI T R) (draw : Bool) (ops : Array Oper) (base : Nat) : List Nat → WSt T → (WSt T → Option R) → Option R
  | [], st, k => k st
  | i :: l, st, k => stepWK cfg wc I draw ops base i st fun st' => runWK cfg wc I draw ops base l st' k
theorem Slots.ext {ops : Array Oper} {α α' : List Nat} {wb vb : Nat} (h : Slots ops α wb vb) (ha : α <+: α') : Slots ops α' wb vb := fun s hs => get_pre ha (h s hs)
theorem runWK_sound (ok : CodOk wc.C) (io : IOk cfg wc.C I) {draw : Bool} {ops : Array Oper} {base : Nat} : ∀ (l : List Nat) {st : WSt T} {k : WSt T → Option R} {r : R}, runWK cfg wc I draw ops base l st k = some r →
    ∃ st', k st' = some r ∧ ∀ {bs α β vst vb}, SSim bs wc.C α β st vst → Slots ops α base vb → ∃ vst' α' β', runOps cfg (callW cfg) draw ops vb l vst = some vst' ∧ α <+: α' ∧ SSim bs wc.C α' β' st' vst'
  | [], st, k, r, h => ⟨st, h, fun {bs α β vst vb} S _ => ⟨vst, α, β, rfl, List.prefix_refl _, S⟩⟩
  | i :: l, st, k, r, h => by
    simp only [runWK] at h
    obtain ⟨st1, h1, h2⟩ := stepWK_sound ok io h
    obtain ⟨st2, h3, h4⟩ := runWK_sound ok io l h1
    refine ⟨st2, h3, fun S hs => ?_⟩
    obtain ⟨vst1, α1, β1, h5, h6, S1⟩ := h2 S hs
    obtain ⟨vst2, α2, β2, h7, h8, S2⟩ := h4 S1 (hs.ext h6)
    exact ⟨vst2, α2, β2, by simp only [runOps, h5, Option.bind_some, h7], h6.trans h8, S2⟩
def preAllocW (P : Program) : List Oper → Option (List (List (W T)))
  | [] => some []
  | o :: os =>
    match o.op with
    | .alloc t =>
      match zeroCellsW P t, preAllocW P os with
      | some z, some r => some (z :: r)
      | _, _ => none
    | _ => preAllocW P os
theorem preAllocW_sound {C : Cod T} : ∀ {os : List Oper} {zs : List (List (W T))}, preAllocW P os = some zs → ∃ vzs, preAlloc P os = some vzs ∧ zs.length = vzs.length ∧ zs.length = os.countP isAlloc ∧
    ∀ {bs α β wm m}, WSim bs C α β wm m → ∃ α', α' = α ++ (List.range vzs.length).map (m.A.length + ·) ∧ WSim bs C α' β { wm with A := wm.A ++ zs } { m with A := m.A ++ vzs }
  | [], zs, h => by
    simp only [preAllocW, Option.some.injEq] at h
    subst h
    exact ⟨[], rfl, rfl, rfl, fun {bs α β wm m} S => ⟨α, by simp, by simpa using S⟩⟩
  | o :: os, zs, h => by
    simp only [preAllocW] at h
    split at h
    · rename_i t hop
      split at h
      · rename_i z r hz hr
        injection h with h
        subst h
        obtain ⟨vr, h1, h2, h3, h4⟩ := preAllocW_sound hr
        obtain ⟨vz, h5, _, _, _⟩ := zeroCellsW_sound (C := C) hz (α := []) (β := [])
        refine ⟨vz :: vr, ?_, by simp [h2], ?_, fun {bs α β wm m} S => ?_⟩
        · simp only [preAlloc, hop, h5, h1]
        · rw [List.countP_cons, List.length_cons, h3]
          simp [isAlloc, hop]
        · obtain ⟨vz', h5', h6, _, _⟩ := zeroCellsW_sound (C := C) hz (α := α) (β := β)
          rw [h5] at h5'
          injection h5' with h5'
          subst h5'
          obtain ⟨α', h7, S'⟩ := h4 (S.pushA h6 m.hi)
          refine ⟨α', ?_, ?_⟩
          · rw [h7]
            simp only [List.length_append, List.length_cons, List.length_nil, List.append_assoc]
            rw [List.range_succ_eq_map]
            simp only [List.map_cons, List.map_map, Nat.add_zero, List.singleton_append]
            congr 2
            apply List.map_congr_left
            intro x _
            simp; omega
          · simpa using S'
      · cases h
    · rename_i hop
      obtain ⟨vr, h1, h2, h3, h4⟩ := preAllocW_sound h
      refine ⟨vr, ?_, h2, ?_, h4⟩
      · simp only [preAlloc]
        exact h1
      · rw [List.countP_cons, h3]
        have : isAlloc o = false := by
          unfold isAlloc
          split
          · rename_i t e; exact absurd e (hop t)
          · rfl
        simp [this]
end Go.Proofs.YtpdgbhjhodhkiaaGreatDoor.AI
