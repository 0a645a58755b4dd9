/- Typed values over the interpreter, second part. -/
import Derived.Test.YtpdgbhjhodhkiaaGreatDoorXC
set_option linter.unusedVariables false
set_option linter.unusedSimpArgs false
namespace Go.Proofs.YtpdgbhjhodhkiaaGreatDoor.AI
open Go
variable {T : Nat → Type} {C : Cod T} {R : Type} {P : Program}
noncomputable def pres (cfg : Cfg) (f : FuncId) (args : List V) : Option V := (callW cfg (.fn f) args Mem.empty).bind fun (v, m') => shut m'.B 0 v
noncomputable def fres (cfg : Cfg) (f : FuncId) (args : List V) (m : Mem) : Option V :=
 (callW cfg (.fn f) args { m with la := m.A.length, lb := m.B.length }).bind fun (v, m') => shut m'.B m.B.length v
mutual
def sealK (wm : WM T) : W T → (W T → Option R) → Option R
 | .own k h, kk =>
  match wm.H[h]? with
  | some (.rows k' l) => if k' = k ∧ wm.lh ≤ h then kk (.row k' l false) else none
  | _ => none
 | .view k h off len, kk =>
  match wm.H[h]? with
  | some (.rows k' l) => if k' = k ∧ wm.lh ≤ h then cnd (decide (off + len ≤ l.length)) (kk (.row k' ((l.drop off).take len) false)) none else none
  | _ => none
 | .agg ws, kk => sealLK wm ws fun l => kk (.agg l)
 | .tup ws, kk => sealLK wm ws fun l => kk (.tup l)
 | w, kk => if W.noref w = true then kk w else none
def sealLK (wm : WM T) : List (W T) → (List (W T) → Option R) → Option R
 | [], kk => kk []
 | w :: ws, kk => sealK wm w fun x => sealLK wm ws fun xs => kk (x :: xs)
end
mutual
theorem sealK_sound (ok : CodOk C) {wm : WM T} : ∀ (w : W T) {k : W T → Option R} {r : R}, sealK wm w k = some r →
  ∃ w', k w' = some r ∧ W.noref w' = true ∧ ∀ {bs α β m v}, WSim bs C α β wm m → Rep C α β w v → ∃ v', shut m.B m.lb v = some v' ∧ Rep C [] [] w' v'
 | .own kk hh, k, r, h => by
  simp only [sealK] at h
  split at h
  ·rename_i k' l he
   split at h
   ·rename_i hk
    obtain ⟨rfl, hlh⟩ := hk
    refine ⟨_, h, rfl, fun {bs α β m v} S hr => ?_⟩
    simp only [Rep] at hr
    rcases S.rows he with ⟨hb', rfl⟩ | ⟨b', ver', cs, hb', hB, hcr⟩
    ·rcases hr with ⟨_, rfl⟩ | ⟨b, ver, nn, hb, rfl⟩
     ·exact ⟨.ro [] 0 true, rfl, by simp only [Rep]; exact ⟨[], true, rfl, fun _ => rfl, rfl⟩⟩
     ·rw [hb] at hb'; cases hb'
    ·rcases hr with ⟨hb, _⟩ | ⟨b, ver, nn, hb, rfl⟩
     ·rw [hb] at hb'; cases hb'
     ·have hb0 := hb
      rw [hb] at hb'
      injection hb' with hb'; injection hb' with hb'
      simp only [Prod.mk.injEq] at hb'
      obtain ⟨rfl, rfl, rfl⟩ := hb'
      have hlb := S.lb _ _ _ _ _ he rfl hb0 hlh
      have hlen := hcr.length ok
      refine ⟨.ro cs l.length false, ?_, by simp only [Rep]; exact ⟨cs, false, rfl, (fun h => by cases h), hcr⟩⟩
      simp only [shut, hB]
      rw [if_pos ⟨by first | rfl | trivial, hlb⟩]
      unfold sub
      rw [if_pos (by omega)]
      simp [← hlen]
   ·cases h
  ·cases h
 | .view kk hh off len, k, r, h => by
  simp only [sealK] at h
  split at h
  ·rename_i k' l he
   split at h
   ·rename_i hk
    obtain ⟨rfl, hlh⟩ := hk
    obtain ⟨h1, h⟩ := cond_some h
    have h1 := of_decide_eq_true h1
    refine ⟨_, h, rfl, fun {bs α β m v} S hr => ?_⟩
    have hln : ((l.drop off).take len).length = len := by simp; omega
    simp only [Rep] at hr
    rcases S.rows he with ⟨hb', rfl⟩ | ⟨b', ver', cs, hb', hB, hcr⟩
    ·rcases hr with ⟨_, rfl, rfl, fl, rfl⟩ | ⟨b, ver, nn, hb, rfl⟩
     ·exact ⟨.ro [] 0 fl, rfl, by simp only [Rep]; exact ⟨[], fl, rfl, (fun h => by cases h), rfl⟩⟩
     ·rw [hb] at hb'; cases hb'
    ·rcases hr with ⟨hb, _⟩ | ⟨b, ver, nn, hb, rfl⟩
     ·rw [hb] at hb'; cases hb'
     ·have hb0 := hb
      rw [hb] at hb'
      injection hb' with hb'; injection hb' with hb'
      simp only [Prod.mk.injEq] at hb'
      obtain ⟨rfl, rfl, rfl⟩ := hb'
      have hlb := S.lb _ _ _ _ _ he rfl hb0 hlh
      have e := hcr.length ok
      refine ⟨.ro ((cs.drop (off * C.size k')).take (len * C.size k')) len false, ?_, ?_⟩
      ·simp only [shut, hB]
       rw [if_pos ⟨by first | rfl | trivial, hlb⟩]
       unfold sub
       rw [if_pos]
       ·rfl
       ·rw [e, ← Nat.add_mul]; exact Nat.mul_le_mul_right _ h1
      ·simp only [Rep]
       exact ⟨_, false, by rw [hln], (fun h => by cases h), (hcr.drop ok off).take ok len⟩
   ·cases h
  ·cases h
 | .agg ws, k, r, h => by
  simp only [sealK] at h
  obtain ⟨ws', h1, h2, h3⟩ := sealLK_sound ok ws h
  refine ⟨_, h1, by simpa only [W.noref] using h2, fun S hr => ?_⟩
  simp only [Rep] at hr
  obtain ⟨vs, rfl, hr⟩ := hr
  obtain ⟨vs', h4, h5⟩ := h3 S hr
  exact ⟨.agg vs', by simp only [shut, h4, Option.map_some], by simp only [Rep]; exact ⟨_, rfl, h5⟩⟩
 | .tup ws, k, r, h => by
  simp only [sealK] at h
  obtain ⟨ws', h1, h2, h3⟩ := sealLK_sound ok ws h
  refine ⟨_, h1, by simpa only [W.noref] using h2, fun S hr => ?_⟩
  simp only [Rep] at hr
  obtain ⟨vs, rfl, hr⟩ := hr
  obtain ⟨vs', h4, h5⟩ := h3 S hr
  exact ⟨.tup vs', by simp only [shut, h4, Option.map_some], by simp only [Rep]; exact ⟨_, rfl, h5⟩⟩
 | .undef, k, r, h | .ptr _ _, k, r, h | .oelem _ _ _ _, k, r, h | .map _, k, r, h | .yld _, k, r, h => by
  simp only [sealK, W.noref, Bool.false_eq_true, if_false] at h
  cases h
 | .bool _, k, r, h | .int _ _, k, r, h | .str _, k, r, h | .nilp, k, r, h | .nilsl, k, r, h | .nilm, k, r, h | .nilf, k, r, h | .nili, k, r, h | .row _ _ _, k, r, h | .relem _ _ _, k, r, h | .fn _ _, k, r, h | .ifc _ _, k, r, h => by
  simp only [sealK] at h
  split at h
  ·rename_i hn
   refine ⟨_, h, hn, fun {bs α β m v} S hr => ⟨v, ?_, noref_any hr hn⟩⟩
   have hp := noref_pure hr hn
   cases v <;> first
    | (simp only [shut]; rw [if_pos hp]; done)
    | (simp [V.pure] at hp; done)
    | (exfalso; simp only [Rep] at hr; first | (cases hr; done) | (obtain ⟨_, hr, _⟩ := hr; cases hr; done) | (obtain ⟨_, _, hr, _⟩ := hr; cases hr; done))
  ·cases h
theorem sealLK_sound (ok : CodOk C) {wm : WM T} : ∀ (ws : List (W T)) {k : List (W T) → Option R} {r : R}, sealLK wm ws k = some r →
  ∃ ws', k ws' = some r ∧ norefL ws' = true ∧ ∀ {bs α β m vs}, WSim bs C α β wm m → RepL C α β ws vs → ∃ vs', shutL m.B m.lb vs = some vs' ∧ RepL C [] [] ws' vs'
 | [], k, r, h => by
  simp only [sealLK] at h
  refine ⟨[], h, rfl, fun S hr => ?_⟩
  simp only [RepL] at hr
  subst hr
  exact ⟨[], rfl, RepL.nil⟩
 | w :: ws, k, r, h => by
  simp only [sealLK] at h
  obtain ⟨w', h1, h2, h3⟩ := sealK_sound ok w h
  obtain ⟨ws', h4, h5, h6⟩ := sealLK_sound ok ws h1
  refine ⟨_, h4, by simp only [norefL, h2, h5, Bool.and_self], fun S hr => ?_⟩
  simp only [RepL] at hr
  obtain ⟨v, vs, rfl, hr1, hr2⟩ := hr
  obtain ⟨v', h7, h8⟩ := h3 S hr1
  obtain ⟨vs', h9, h10⟩ := h6 S hr2
  exact ⟨v' :: vs', by simp only [shutL, h7, h9], RepL.cons h8 h10⟩
end
def scalW0 : W T → Bool
 | .bool _ | .int _ _ | .str _ | .nilp | .nilsl | .nilm | .nilf | .nili => true
 | _ => false
def scalarW : W T → Bool
 | .tup ws => ws.all scalW0
 | w => scalW0 w
theorem scalW0_sound {w : W T} (h : scalW0 w = true) {α β v} (hr : Rep C α β w v) : scalar0 v = true := by
 cases w <;> simp only [scalW0, Bool.false_eq_true] at h <;> simp only [Rep] at hr <;> subst hr <;> rfl
theorem scalarW_sound {w : W T} (h : scalarW w = true) {α β v} (hr : Rep C α β w v) : scalarV v = true := by
 cases w
 case tup ws =>
  simp only [Rep] at hr
  obtain ⟨vs, rfl, hr⟩ := hr
  simp only [scalarW] at h
  simp only [scalarV]
  induction ws generalizing vs with
  | nil => simp only [RepL] at hr; subst hr; rfl
  | cons w ws ih =>
   simp only [RepL] at hr
   obtain ⟨v, vs', rfl, h1, h2⟩ := hr
   simp only [List.all_cons, Bool.and_eq_true] at h ⊢
   exact ⟨scalW0_sound h.1 h1, ih h.2 vs' h2⟩
 all_goals
  have h' := scalW0_sound (by simpa only [scalarW] using h) hr
  cases v <;> first | exact h' | simp [scalar0] at h'
structure WI (T : Nat → Type) (R : Type) where
 pur : FuncId → List (W T) → (W T → Option R) → Option R
 ext : FuncId → List (W T) → (W T → Option R) → Option R
 frz : FuncId → List (W T) → WM T → (W T → Option R) → Option R
 call : FuncId → List (W T) → WM T → (W T × WM T → Option R) → Option R
 yld : Nat → List (W T) → WM T → (W T × WM T → Option R) → Option R
 loop : Code → List Nat → WSt T → (Ex × WSt T → Option R) → Option R
 blk : List Nat → Bool := fun _ => false
 cut : Code → List Nat → WSt T → (Ex × WSt T → Option R) → Option R := fun _ _ _ _ => none
 heap : FuncId → Bool := fun _ => false
inductive DfR (C : Cod T) (α : List Nat) (β : Bt) : List (TypeId × W T × W T) → List (TypeId × V × V) → Prop
 | nil : DfR C α β [] []
 | cons {t x y u v l l'} : Rep C α β x u → Rep C α β y v → DfR C α β l l' → DfR C α β ((t, x, y) :: l) ((t, u, v) :: l')
theorem DfR.ext {α α' β β'} (ha : α <+: α') (hb : β <+: β') {l : List (TypeId × W T × W T)} {l' : List (TypeId × V × V)} (h : DfR C α β l l') : DfR C α' β' l l' := by
 induction h with
 | nil => exact DfR.nil
 | cons h1 h2 _ ih => exact DfR.cons (h1.ext ha hb) (h2.ext ha hb) ih
structure SSim (bs : Base) (C : Cod T) (α : List Nat) (β : Bt) (st : WSt T) (vs : St) : Prop where
 tm : RepL C α β st.tm vs.tm
 mem : WSim bs C α β st.mem vs.mem
 df : DfR C α β st.df vs.df
 rd : vs.rd = st.rd
def CallSaid (C : Cod T) (ws : List (W T)) (wm wm' : WM T) (w : W T) (o : List V → Mem → Option (V × Mem)) : Prop :=
 ∀ {bs α β m vs}, WSim bs C α β wm m → RepL C α β ws vs → Goes C wm wm' w bs α β (o vs m)
def LoopSaid (cfg : Cfg) (C : Cod T) (c : Code) (st : WSt T) (x : Ex × WSt T) : Prop :=
 ∀ {bs α β vst}, SSim bs C α β st vst → ∃ vx α' β', exec cfg (callW cfg) loopW c vst = some (x.1, vx) ∧ α <+: α' ∧ SSim bs C α' β' x.2 vx
structure IOk (cfg : Cfg) (C : Cod T) (I : WI T R) : Prop where
 pur : ∀ {f ws k r}, I.pur f ws k = some r → ∃ w, k w = some r ∧ ∀ {vs}, RepL C [] [] ws vs → ∃ v, pres cfg f vs = some v ∧ Rep C [] [] w v
 ext : ∀ {f ws k r}, I.ext f ws k = some r → ∃ w, k w = some r ∧ ∀ {vs}, RepL C [] [] ws vs → ∃ v, cfg.ext f vs = some v ∧ Rep C [] [] w v ∧ V.pure v = true
 frz : ∀ {f ws wm k r}, I.frz f ws wm k = some r → ∃ w, k w = some r ∧ ∀ {bs α β m vs}, WSim bs C α β wm m → RepL C α β ws vs → ∃ v, fres cfg f vs m = some v ∧ Rep C [] [] w v
 call : ∀ {f ws wm k r}, I.call f ws wm k = some r → ∃ w wm', k (w, wm') = some r ∧ CallSaid C ws wm wm' w (callW cfg (.fn f))
 yld : ∀ {h ws wm k r}, I.yld h ws wm k = some r → ∃ w wm', k (w, wm') = some r ∧ ∀ {bs α β m vs b ver n}, WSim bs C α β wm m → β[h]? = some (some (b, ver, n)) → RepL C α β ws vs → Goes C wm wm' w bs α β (callW cfg (.yld b) vs m)
 loop : ∀ {c p st k r}, I.loop c p st k = some r → ∃ x, k x = some r ∧ LoopSaid cfg C (.loop c) st x
 cut : ∀ {c p st k r}, I.cut c p st k = some r → ∃ x, k x = some r ∧ LoopSaid cfg C c st x
mutual
def W.used : W T → List Nat
 | .own _ h => [h]
 | .view _ h _ _ => [h]
 | .agg ws => usedWL ws
 | .tup ws => usedWL ws
 | _ => []
def usedWL : List (W T) → List Nat
 | [] => []
 | w :: ws => W.used w ++ usedWL ws
end
def killAll : List Nat → WM T → WM T
 | [], wm => wm
 | h :: hs, wm => killAll hs { wm with H := wm.H.set h .dead }
theorem killAll_get : ∀ (hs : List Nat) (wm : WM T) (h : Nat) (e : En T), (killAll hs wm).H[h]? = some e → e.live = true → wm.H[h]? = some e ∧ h ∉ hs
 | [], wm, h, e, he, _ => ⟨he, by simp⟩
 | h' :: hs, wm, h, e, he, hl => by
  obtain ⟨h1, h2⟩ := killAll_get hs _ h e he hl
  simp only at h1
  by_cases heq : h' = h
  ·subst heq
   rw [List.getElem?_set] at h1
   simp only [if_true] at h1
   split at h1
   ·injection h1 with h1
    subst h1
    cases hl
   ·cases h1
  ·rw [List.getElem?_set, if_neg heq] at h1
   refine ⟨h1, ?_⟩
   simp only [List.mem_cons, not_or]
   exact ⟨fun h => heq h.symm, h2⟩
theorem WSim.killAll : ∀ (hs : List Nat) {wm : WM T} {bs α β m}, WSim bs C α β wm m → WSim bs C α β (killAll hs wm) m
 | [], _, _, _, _, _, S => S
 | h :: hs, _, _, _, _, _, S => WSim.killAll hs (S.kill h)
theorem WSim.frozen {bs : Base} {α : List Nat} {β : Bt} {wm : WM T} {m : Mem} (S : WSim bs C α β wm m) (us : List Nat) (hd : ∀ (h : Nat) (e : En T) b ver n, wm.H[h]? = some e → e.live = true → β[h]? = some (some (b, ver, n)) → b ∉ us) (hm : ∀ b ∈ us, ∃ (h : Nat) (ver n : Nat), β[h]? = some (some (b, ver, n))) :
  WSim bs C α β wm { m with B := frzB us 0 m.B } :=
 have hne : ∀ b, b ∉ us → (AI.frzB us 0 m.B)[b]? = m.B[b]? := by
  intro b hb
  rw [frzB_get, Nat.zero_add]
  have : us.contains b = false := by simpa using hb
  simp only [this, Bool.false_eq_true, if_false, Option.map_id', id]
 { S with
   A := S.A
   la := S.la
   H := fun h e he => (S.H h e he).mem fun hl b ver n hb => hne b (hd h e b ver n he hl hb)
   lb := S.lb
   ltB := by simp only [frzB_length]; exact S.ltB
   fa := S.fa
   fb := fun b hb hn => by
    rw [← S.fb b hb hn]
    refine hne b fun hbu => ?_
    obtain ⟨h, ver, n, h1⟩ := hm b hbu
    rcases S.nb h b ver n h1 with ⟨h', ver', n', h2⟩ | h2
    ·exact hn h' ver' n' h2
    ·omega
   lenA0 := S.lenA0
   lenB0 := by simp only [frzB_length]; exact S.lenB0
   la0 := S.la0
   lb0 := S.lb0 }
mutual
theorem sealK_go {wm : WM T} : ∀ (w : W T) {k : W T → Option R} {r : R}, sealK wm w k = some r → ∃ w', k w' = some r
 | .own kk hh, k, r, h => by
  simp only [sealK] at h
  split at h
  ·split at h
   ·exact ⟨_, h⟩
   ·cases h
  ·cases h
 | .view kk hh off len, k, r, h => by
  simp only [sealK] at h
  split at h
  ·split at h
   ·exact ⟨_, (cond_some h).2⟩
   ·cases h
  ·cases h
 | .agg ws, k, r, h => by
  simp only [sealK] at h
  obtain ⟨ws', h⟩ := sealLK_go ws h
  exact ⟨_, h⟩
 | .tup ws, k, r, h => by
  simp only [sealK] at h
  obtain ⟨ws', h⟩ := sealLK_go ws h
  exact ⟨_, h⟩
 | .undef, k, r, h | .ptr _ _, k, r, h | .oelem _ _ _ _, k, r, h | .map _, k, r, h | .yld _, k, r, h
 | .bool _, k, r, h | .int _ _, k, r, h | .str _, k, r, h | .nilp, k, r, h | .nilsl, k, r, h | .nilm, k, r, h | .nilf, k, r, h | .nili, k, r, h | .row _ _ _, k, r, h | .relem _ _ _, k, r, h | .fn _ _, k, r, h | .ifc _ _, k, r, h => by
  simp only [sealK] at h
  split at h
  ·exact ⟨_, h⟩
  ·cases h
theorem sealLK_go {wm : WM T} : ∀ (ws : List (W T)) {k : List (W T) → Option R} {r : R}, sealLK wm ws k = some r → ∃ ws', k ws' = some r
 | [], k, r, h => ⟨_, by simpa only [sealLK] using h⟩
 | w :: ws, k, r, h => by
  simp only [sealLK] at h
  obtain ⟨w', h1⟩ := sealK_go w h
  obtain ⟨ws', h2⟩ := sealLK_go ws h1
  exact ⟨_, h2⟩
end
mutual
theorem sealK_used {wm : WM T} : ∀ (w : W T) {k : W T → Option R} {r : R}, sealK wm w k = some r →
  ∀ {α β v}, Rep C α β w v → ∀ b ∈ V.used v, ∃ h ∈ W.used w, ∃ e ver n, wm.H[h]? = some e ∧ e.live = true ∧ β[h]? = some (some (b, ver, n))
 | .own kk hh, k, r, h, α, β, v, hr, b, hb => by
  simp only [sealK] at h
  split at h
  ·rename_i k' l he
   simp only [Rep] at hr
   rcases hr with ⟨_, rfl⟩ | ⟨b', ver, nn, hb', rfl⟩
   ·simp [V.used] at hb
   ·simp only [V.used, List.mem_singleton] at hb
    subst hb
    exact ⟨hh, by simp [W.used], _, ver, nn, he, rfl, hb'⟩
  ·cases h
 | .view kk hh off len, k, r, h, α, β, v, hr, b, hb => by
  simp only [sealK] at h
  split at h
  ·rename_i k' l he
   simp only [Rep] at hr
   rcases hr with ⟨_, _, _, _, rfl⟩ | ⟨b', ver, nn, hb', rfl⟩
   ·simp [V.used] at hb
   ·simp only [V.used, List.mem_singleton] at hb
    subst hb
    exact ⟨hh, by simp [W.used], _, ver, nn, he, rfl, hb'⟩
  ·cases h
 | .agg ws, k, r, h, α, β, v, hr, b, hb => by
  simp only [sealK] at h
  simp only [Rep] at hr
  obtain ⟨vs, rfl, hr⟩ := hr
  simp only [W.used]
  exact sealLK_used ws h hr b (by simpa only [V.used] using hb)
 | .tup ws, k, r, h, α, β, v, hr, b, hb => by
  simp only [sealK] at h
  simp only [Rep] at hr
  obtain ⟨vs, rfl, hr⟩ := hr
  simp only [W.used]
  exact sealLK_used ws h hr b (by simpa only [V.used] using hb)
 | .undef, k, r, h, _, _, _, _, _, _ | .ptr _ _, k, r, h, _, _, _, _, _, _ | .oelem _ _ _ _, k, r, h, _, _, _, _, _, _ | .map _, k, r, h, _, _, _, _, _, _ | .yld _, k, r, h, _, _, _, _, _, _ => by
  simp only [sealK, W.noref, Bool.false_eq_true, if_false] at h
  cases h
 | .bool _, k, r, h, _, _, v, hr, b, hb | .int _ _, k, r, h, _, _, v, hr, b, hb | .str _, k, r, h, _, _, v, hr, b, hb | .nilp, k, r, h, _, _, v, hr, b, hb | .nilsl, k, r, h, _, _, v, hr, b, hb | .nilm, k, r, h, _, _, v, hr, b, hb | .nilf, k, r, h, _, _, v, hr, b, hb | .nili, k, r, h, _, _, v, hr, b, hb => by
  simp only [Rep] at hr
  subst hr
  simp [V.used] at hb
 | .row _ _ _, k, r, h, _, _, v, hr, b, hb => by
  simp only [Rep] at hr
  obtain ⟨_, _, rfl, _⟩ := hr
  simp [V.used] at hb
 | .relem _ _ _, k, r, h, _, _, v, hr, b, hb => by
  simp only [Rep] at hr
  obtain ⟨_, _, rfl, _⟩ := hr
  simp [V.used] at hb
 | .fn _ _, k, r, h, _, _, v, hr, b, hb => by
  simp only [Rep] at hr
  obtain ⟨_, rfl, _⟩ := hr
  simp [V.used] at hb
 | .ifc _ _, k, r, h, _, _, v, hr, b, hb => by
  simp only [Rep] at hr
  obtain ⟨_, rfl, _⟩ := hr
  simp [V.used] at hb
theorem sealLK_used {wm : WM T} : ∀ (ws : List (W T)) {k : List (W T) → Option R} {r : R}, sealLK wm ws k = some r →
  ∀ {α β vs}, RepL C α β ws vs → ∀ b ∈ usedL vs, ∃ h ∈ usedWL ws, ∃ e ver n, wm.H[h]? = some e ∧ e.live = true ∧ β[h]? = some (some (b, ver, n))
 | [], k, r, h, α, β, vs, hr, b, hb => by
  simp only [RepL] at hr
  subst hr
  simp [usedL] at hb
 | w :: ws, k, r, h, α, β, vs, hr, b, hb => by
  simp only [sealLK] at h
  simp only [RepL] at hr
  obtain ⟨v, vs', rfl, hr1, hr2⟩ := hr
  simp only [usedL, List.mem_append] at hb
  simp only [usedWL, List.mem_append]
  rcases hb with hb | hb
  ·obtain ⟨h', h1, h2⟩ := sealK_used w h hr1 b hb
   exact ⟨h', .inl h1, h2⟩
  ·obtain ⟨w', g1⟩ := sealK_go w h
   obtain ⟨h', h1, h2⟩ := sealLK_used ws g1 hr2 b hb
   exact ⟨h', .inr h1, h2⟩
end
variable {cfg : Cfg} {wc : WCfg T} {I : WI T R}
def doCallWK (cfg : Cfg) (I : WI T R) (wm : WM T) (draw : Bool) (f : FuncId) (args : List (W T)) (k : W T × WM T → Option R) : Option R :=
 match cfg.md f with
 | .keep => if draw then none else I.call f args wm k
 | .ext => if norefL args = true then I.ext f args fun w => if W.free w = true then k (w, wm) else none else none
 | .pure => sealLK wm args fun args' => I.pur f args' fun w => if W.noref w = true then (if (norefL args || scalarW w) = true then k (w, wm) else if draw then none else k (w, killAll (usedWL args) wm)) else none
 | .frozen => I.frz f args wm fun w => if W.noref w = true then k (w, wm) else none
theorem pureL_all {vs : List V} (h : pureL vs = true) : vs.all V.pure = true := by
 induction vs with
 | nil => rfl
 | cons v vs ih =>
  simp only [pureL, Bool.and_eq_true] at h
  simp only [List.all_cons, Bool.and_eq_true]
  exact ⟨h.1, ih h.2⟩
theorem doCallWK_sound (ok : CodOk C) (io : IOk cfg C I) {wm : WM T} {draw : Bool} {f : FuncId} {args : List (W T)} {k : W T × WM T → Option R} {r : R} (h : doCallWK cfg I wm draw f args k = some r) :
  ∃ w wm', k (w, wm') = some r ∧ CallSaid C args wm wm' w (doCall cfg (callW cfg) draw f) := by
 unfold doCallWK at h
 split at h
 ·rename_i hmd
  split at h
  ·cases h
  ·rename_i hd
   obtain ⟨w, wm', h1, h2⟩ := io.call h
   refine ⟨w, wm', h1, fun S hr => ?_⟩
   simp only [doCall, hmd]
   rw [if_neg hd]
   exact h2 S hr
 ·rename_i hmd
  split at h
  ·rename_i hn
   obtain ⟨w, h1, h2⟩ := io.ext h
   split at h1
   ·rename_i hw
    refine ⟨w, wm, h1, fun {bs α β m vs} S hr => ?_⟩
    obtain ⟨v, h3, h4, hpv⟩ := h2 (norefL_any hr hn)
    refine ⟨v, m, α, β, ?_, List.prefix_refl _, List.prefix_refl _, S, free_any h4 hw⟩
    simp only [doCall, hmd, h3, Option.bind_some]
    rw [if_pos ⟨pureL_all (norefL_pure hr hn), hpv⟩]
   ·cases h1
  ·cases h
 ·rename_i hmd
  have hus := @sealLK_used T C R wm args _ r h
  obtain ⟨args', h1, hn1, h2⟩ := sealLK_sound ok args h
  obtain ⟨w, h3, h4⟩ := io.pur h1
  split at h3
  ·rename_i hwn
   split at h3
   ·rename_i hw
    refine ⟨w, wm, h3, fun {bs α β m vs} S hr => ?_⟩
    obtain ⟨vs', h5, h6⟩ := h2 S hr
    obtain ⟨v, h7, h8⟩ := h4 h6
    refine ⟨v, m, α, β, ?_, List.prefix_refl _, List.prefix_refl _, S, noref_any h8 hwn⟩
    unfold pres at h7
    obtain ⟨⟨u, m'⟩, h9, h10⟩ := Option.bind_eq_some_iff.1 h7
    simp only [doCall, hmd, h5, h9, Option.bind_some, h10]
    have : (pureL vs || scalarV v) = true := by
     simp only [Bool.or_eq_true] at hw ⊢
     rcases hw with h | h
     ·exact .inl (norefL_pure hr h)
     ·exact .inr (scalarW_sound h h8)
    rw [if_pos this]
   ·split at h3
    ·cases h3
    ·rename_i hdr
     refine ⟨w, killAll (usedWL args) wm, h3, fun {bs α β m vs} S hr => ?_⟩
     obtain ⟨vs', h5, h6⟩ := h2 S hr
     obtain ⟨v, h7, h8⟩ := h4 h6
     unfold pres at h7
     obtain ⟨⟨u, m'⟩, h9, h10⟩ := Option.bind_eq_some_iff.1 h7
     have SF : WSim bs C α β (killAll (usedWL args) wm) { m with B := frzB (usedL vs) 0 m.B } := by
      refine WSim.frozen (WSim.killAll _ S) _ (fun h e b ver n he hl hb hbu => ?_) (fun b hb => ?_)
      ·obtain ⟨g1, g2⟩ := killAll_get _ _ _ _ he hl
       obtain ⟨h', k1, e', ver', n', k2, k3, k4⟩ := hus hr b hbu
       have := S.injH _ _ _ _ _ _ _ _ _ g1 k2 hl k3 hb k4
       subst this
       exact g2 k1
      ·obtain ⟨h', k1, e', ver', n', k2, k3, k4⟩ := hus hr b hb
       exact ⟨h', ver', n', k4⟩
     by_cases hc : (pureL vs || scalarV v) = true
     ·refine ⟨v, m, α, β, ?_, List.prefix_refl _, List.prefix_refl _, WSim.killAll _ S, noref_any h8 hwn⟩
      simp only [doCall, hmd, h5, h9, Option.bind_some, h10]
      rw [if_pos hc]
     ·refine ⟨v, _, α, β, ?_, List.prefix_refl _, List.prefix_refl _, SF, noref_any h8 hwn⟩
      simp only [doCall, hmd, h5, h9, Option.bind_some, h10]
      rw [if_neg hc, if_neg hdr]
  ·cases h3
 ·rename_i hmd
  obtain ⟨w, h1, h2⟩ := io.frz h
  split at h1
  ·rename_i hw
   refine ⟨w, wm, h1, fun {bs α β m vs} S hr => ?_⟩
   obtain ⟨v, h7, h8⟩ := h2 S hr
   refine ⟨v, m, α, β, ?_, List.prefix_refl _, List.prefix_refl _, S, noref_any h8 hw⟩
   unfold fres at h7
   obtain ⟨⟨u, m'⟩, h9, h10⟩ := Option.bind_eq_some_iff.1 h7
   simp only [doCall, hmd, h9, Option.bind_some, h10, Option.map_some]
  ·cases h1
def callWK (cfg : Cfg) (wc : WCfg T) (I : WI T R) (wm : WM T) (draw : Bool) (ρ : Operand → W T) (c : Go.Call) (k : W T × WM T → Option R) : Option R :=
 match c.callee with
 | .builtin b => builtinWK wc cfg.P wm b c.argTypes.toList (c.args.toList.map ρ) k
 | .value f =>
  match ρ f with
  | .fn f caps => doCallWK cfg I wm draw f (c.args.toList.map ρ ++ caps) k
  | .yld h => if draw then none else I.yld h (c.args.toList.map ρ) wm k
  | _ => none
 | .invoke _ _ => none
theorem callWK_sound (ok : CodOk wc.C) (io : IOk cfg wc.C I) {wm : WM T} {draw : Bool} {ρ : Operand → W T} {c : Go.Call} {k : W T × WM T → Option R} {r : R} (h : callWK cfg wc I wm draw ρ c k = some r) :
  ∃ w wm', k (w, wm') = some r ∧ ∀ {bs α β m ρv}, WSim bs wc.C α β wm m → (∀ o, Rep wc.C α β (ρ o) (ρv o)) → Goes wc.C wm wm' w bs α β (callV cfg (callW cfg) draw ρv m c) := by
 unfold callWK at h
 split at h
 ·rename_i b hc
  obtain ⟨w, wm', h1, h2⟩ := builtinWK_sound ok h
  refine ⟨w, wm', h1, fun S hρ => ?_⟩
  simp only [callV, hc]
  exact h2 S (repL_map hρ _)
 ·rename_i f hc
  split at h
  ·rename_i f' caps hf
   obtain ⟨w, wm', h1, h2⟩ := doCallWK_sound ok io h
   refine ⟨w, wm', h1, fun S hρ => ?_⟩
   have h3 := hρ f
   rw [hf] at h3
   simp only [Rep] at h3
   obtain ⟨vs, h3, h4⟩ := h3
   simp only [callV, hc, h3]
   exact h2 S ((repL_map hρ _).append h4)
  ·rename_i hh hf
   split at h
   ·cases h
   ·rename_i hd
    obtain ⟨w, wm', h1, h2⟩ := io.yld h
    refine ⟨w, wm', h1, fun S hρ => ?_⟩
    have h3 := hρ f
    rw [hf] at h3
    simp only [Rep] at h3
    obtain ⟨b, ver, n, hb, h3⟩ := h3
    simp only [callV, hc, h3]
    rw [if_neg hd]
    exact h2 S hb (repL_map hρ _)
  ·cases h
 ·cases h
def putW (tm : List (W T)) (d : Option Tmp) (w : W T) : List (W T) :=
 match d with
 | some d => tm.set d w
 | none => tm
def guardWK (ops : Array Oper) (st : WSt T) (o : Oper) (kk : Bool → WSt T → Option R) : Option R :=
 match o.guard with
 | none => kk true st
 | some (j, want) =>
  match (ops[j]?).bind (·.dst) with
  | none => kk false st
  | some d =>
   match st.tm[d]? with
   | some (.bool b) => cnd b (kk want { st with tm := st.tm.set d (.bool true) }) (kk (!want) { st with tm := st.tm.set d (.bool false) })
   | some (.tup []) => kk false st
   | _ => none
def rowPW : W T → Bool
 | .relem _ _ _ => true
 | .oelem _ _ _ _ => true
 | _ => false
def ptrW : W T → Bool
 | .ptr _ _ => true
 | _ => false
def disjW : W T → W T → Bool
 | .ptr i _, .ptr j _ => !(i == j)
 | .ptr _ _, .relem _ _ _ => true
 | .ptr _ _, .oelem _ _ _ _ => true
 | _, _ => false
def disjOW (ρ : Operand → W T) (p : Operand) : Op → Bool
 | .load _ r => disjW (ρ p) (ρ r)
 | _ => true
def chkQW (P : Program) (ops : Array Oper) (ρ : Operand → W T) : Op → Bool
 | .load _ p => !(rowAddr P ops p) || rowPW (ρ p)
 | .store t p x => (!(ownAddr ops p) || ptrW (ρ p)) && ops.toList.all fun q => !(apartV ops (.store t p x) q.op) || disjOW ρ p q.op
 | _ => true
theorem disjW_sound {bs : Base} {α β} {wm : WM T} {m : Mem} (S : WSim bs C α β wm m) {w w' : W T} {v v' : V} (h : disjW w w' = true) (hr : Rep C α β w v) (hr' : Rep C α β w' v') : disj v v' = true := by
 unfold disjW at h
 split at h
 ·simp only [Rep] at hr hr'
  obtain ⟨j, h1, rfl⟩ := hr
  obtain ⟨j', h2, rfl⟩ := hr'
  simp only [disj, Bool.not_eq_true', beq_eq_false_iff_ne]
  intro e
  subst e
  have := S.injA _ _ _ h1 h2
  subst this
  simp at h
 ·simp only [Rep] at hr hr'
  obtain ⟨j, h1, rfl⟩ := hr
  obtain ⟨_, _, rfl, _⟩ := hr'
  rfl
 ·simp only [Rep] at hr hr'
  obtain ⟨j, h1, rfl⟩ := hr
  obtain ⟨_, _, _, _, rfl⟩ := hr'
  rfl
 ·cases h
theorem chkQW_sound {P : Program} {ops : Array Oper} {ρ : Operand → W T} {ρv : Operand → V} {op : Op} {bs : Base} {α β} {wm : WM T} {m : Mem} (S : WSim bs C α β wm m) (h : chkQW P ops ρ op = true) (hρ : ∀ o, Rep C α β (ρ o) (ρv o)) : chkQ P ops ρv op = true := by
 cases op <;> simp only [chkQW, chkQ] at h ⊢
 case load t p =>
  simp only [Bool.or_eq_true] at h ⊢
  rcases h with h | h
  ·exact .inl h
  ·have := hρ p
   generalize ρ p = w at h this
   unfold rowPW at h
   split at h
   ·simp only [Rep] at this; obtain ⟨_, _, e, _⟩ := this; rw [e]; exact .inr rfl
   ·simp only [Rep] at this; obtain ⟨_, _, _, _, e⟩ := this; rw [e]; exact .inr rfl
   ·cases h
 case store t p x =>
  simp only [Bool.and_eq_true, List.all_eq_true] at h ⊢
  obtain ⟨h, hall⟩ := h
  refine ⟨?_, fun q hq => ?_⟩
  ·simp only [Bool.or_eq_true] at h ⊢
   rcases h with h | h
   ·exact .inl h
   ·have := hρ p
    generalize ρ p = w at h this
    unfold ptrW at h
    split at h
    ·simp only [Rep] at this; obtain ⟨_, _, e⟩ := this; rw [e]; exact .inr rfl
    ·cases h
  ·have h1 := hall q hq
   simp only [Bool.or_eq_true] at h1 ⊢
   rcases h1 with h1 | h1
   ·exact .inl h1
   ·refine .inr ?_
    cases hop : q.op <;> simp only [hop, disjOW, disjO] at h1 ⊢
    exact disjW_sound S h1 (hρ _) (hρ _)
def stepWK (cfg : Cfg) (wc : WCfg T) (I : WI T R) (draw : Bool) (ops : Array Oper) (base i : Nat) (st : WSt T) (k : WSt T → Option R) : Option R :=
 match ops[i]? with
 | none => k st
 | some o => guardWK ops st o fun b st =>
  cnd b (match o.op with
   | .call c => callWK cfg wc I st.mem draw (evalW st.tm) c fun (w, wm) => k { st with tm := putW st.tm o.dst w, mem := wm }
   | .defer { callee := .builtin .delete, args, argTypes } =>
    match argTypes.toList, args.toList.map (evalW st.tm) with
    | t :: _, [x, key] => if (st.rd || draw) = true then none else k { st with tm := putW st.tm o.dst (.tup []), df := (t, x, key) :: st.df }
    | _, _ => none
   | op => if (draw && !chkQW cfg.P ops (evalW st.tm) op) = true then none else opWK wc cfg.P st.mem (base + slotOf ops i) (evalW st.tm) op fun (w, wm) => k { st with tm := putW st.tm o.dst w, mem := wm })
   (k { st with tm := putW st.tm o.dst (.tup []) })
theorem put_rep {tm : List (W T)} {vs : List V} {α β} (h : RepL C α β tm vs) (d : Option Tmp) {w : W T} {v : V} (hw : Rep C α β w v) : RepL C α β (putW tm d w) (putV vs d v) := by
 cases d with
 | none => exact h
 | some d => exact h.set d hw
theorem rep_unit {α β} : Rep C α β (.tup [] : W T) (.tup []) := by simp only [Rep]; exact ⟨[], rfl, RepL.nil⟩
theorem guardWK_sound {ops : Array Oper} {st : WSt T} {o : Oper} {kk : Bool → WSt T → Option R} {r : R} (h : guardWK ops st o kk = some r) :
  ∃ b st', kk b st' = some r ∧ ∀ {bs α β vst}, SSim bs C α β st vst → guardV ops vst.tm o = some b ∧ SSim bs C α β st' vst := by
 unfold guardWK at h
 split at h
 ·rename_i hg
  exact ⟨true, st, h, fun S => ⟨by simp only [guardV, hg], S⟩⟩
 ·rename_i j want hg
  split at h
  ·rename_i hd
   exact ⟨false, st, h, fun S => ⟨by simp only [guardV, hg, hd], S⟩⟩
  ·rename_i d hd
   split at h
   ·rename_i b hb
    have know : ∀ {bs α β vst}, SSim bs C α β st vst → vst.tm[d]? = some (.bool b) := by
     intro bs α β vst S
     obtain ⟨v, h1, h2⟩ := S.tm.get hb
     simp only [Rep] at h2; subst h2
     exact h1
    rcases cond_cases h with ⟨rfl, h⟩ | ⟨rfl, h⟩
    ·refine ⟨want, _, h, fun S => ⟨by simp only [guardV, hg, hd, know S]; cases want <;> rfl, ⟨?_, S.mem, S.df, S.rd⟩⟩⟩
     have := S.tm.set d (w := .bool true) (v := .bool true) (by simp only [Rep])
     rw [set_self (know S)] at this
     exact this
    ·refine ⟨!want, _, h, fun S => ⟨by simp only [guardV, hg, hd, know S]; cases want <;> rfl, ⟨?_, S.mem, S.df, S.rd⟩⟩⟩
     have := S.tm.set d (w := .bool false) (v := .bool false) (by simp only [Rep])
     rw [set_self (know S)] at this
     exact this
   ·rename_i hb
    refine ⟨false, st, h, fun S => ⟨?_, S⟩⟩
    obtain ⟨v, h1, h2⟩ := S.tm.get hb
    simp only [Rep] at h2
    obtain ⟨vs, rfl, h2⟩ := h2
    simp only [RepL] at h2; subst h2
    simp only [guardV, hg, hd, h1]
   ·cases h
def Slots (ops : Array Oper) (α : List Nat) (wb vb : Nat) : Prop := ∀ s, s < ops.toList.countP isAlloc → α[wb + s]? = some (vb + s)
theorem slotW_lt {ops : Array Oper} {i : Nat} {o : Oper} (h : ops[i]? = some o) (ha : isAlloc o = true) : slotOf ops i < ops.toList.countP isAlloc := by
 have h' : ops.toList[i]? = some o := by simpa using h
 obtain ⟨hl, hx⟩ := List.getElem?_eq_some_iff.1 h'
 unfold slotOf
 conv => rhs; rw [← List.take_append_drop i ops.toList]
 rw [List.countP_append, List.drop_eq_getElem_cons hl, hx, List.countP_cons, ha]
 simp
theorem stepWK_sound (ok : CodOk wc.C) (io : IOk cfg wc.C I) {draw : Bool} {ops : Array Oper} {base i : Nat} {st : WSt T} {k : WSt T → Option R} {r : R} (h : stepWK cfg wc I draw ops base i st k = some r) :
  ∃ st', k st' = some r ∧ ∀ {bs α β vst vb}, SSim bs wc.C α β st vst → Slots ops α base vb → (draw = true → chkAt cfg.P ops i vst = true) ∧ ∃ vst' α' β', stepAt cfg (callW cfg) draw ops vb i vst = some vst' ∧ α <+: α' ∧ SSim bs wc.C α' β' st' vst' := by
 unfold stepWK at h
 split at h
 ·rename_i hi
  exact ⟨st, h, fun {bs α β vst vb} S _ => ⟨fun _ => (by unfold chkAt; simp only [hi]), vst, α, β, by simp only [stepAt, hi], List.prefix_refl _, S⟩⟩
 ·rename_i o hi
  obtain ⟨b, st1, h1, h2⟩ := guardWK_sound (C := wc.C) h
  cases b with
  | false =>
   simp only [cnd_false] at h1
   refine ⟨_, h1, fun {bs α β vst vb} S _ => ?_⟩
   obtain ⟨h3, S1⟩ := h2 S
   exact ⟨fun _ => (chkAt_eq hi).2 fun e => (by rw [h3] at e; cases e), { vst with tm := putV vst.tm o.dst (.tup []) }, α, β, by simp only [stepAt, hi, h3], List.prefix_refl _, ⟨put_rep S1.tm _ rep_unit, S1.mem, S1.df, S1.rd⟩⟩
  | true =>
   simp only [cnd_true] at h1
   split at h1
   ·rename_i c hop
    obtain ⟨w, wm', h3, h4⟩ := callWK_sound ok io h1
    refine ⟨_, h3, fun {bs α β vst vb} S _ => ?_⟩
    obtain ⟨h5, S1⟩ := h2 S
    obtain ⟨v, m', α', β', h6, h7, h8, h9, h10⟩ := h4 S1.mem (rep_eval S1.tm)
    refine ⟨fun _ => (chkAt_eq hi).2 fun _ => (by rw [hop]; rfl), { vst with tm := putV vst.tm o.dst v, mem := m' }, α', β', ?_, h7, ⟨put_rep (S1.tm.ext h7 h8) _ h10, h9, S1.df.ext h7 h8, S1.rd⟩⟩
    simp only [stepAt, hi, h5, hop, h6]
    rfl
   ·rename_i args argTypes hop
    split at h1
    ·rename_i t ts x key hts hargs
     split at h1
     ·cases h1
     ·rename_i hrd
      refine ⟨_, h1, fun {bs α β vst vb} S _ => ?_⟩
      obtain ⟨h5, S1⟩ := h2 S
      have hl := repL_map (rep_eval S1.tm) args.toList
      rw [hargs] at hl
      simp only [RepL] at hl
      obtain ⟨v1, vs1, e1, r1, v2, vs2, e2, r2, e3⟩ := hl
      subst e3 e2
      refine ⟨fun _ => (chkAt_eq hi).2 fun _ => (by rw [hop]; rfl), { vst with tm := putV vst.tm o.dst (.tup []), df := (t, v1, v2) :: vst.df }, α, β, ?_, List.prefix_refl _, ⟨put_rep S1.tm _ rep_unit, S1.mem, DfR.cons r1 r2 S1.df, S1.rd⟩⟩
      simp only [stepAt, hi, h5, hop, hts, e1]
      rw [if_neg (by rw [S1.rd]; exact hrd)]
    ·cases h1
   ·rename_i hnc hnd
    split at h1
    ·cases h1
    rename_i hck
    obtain ⟨w, wm', h3, h4⟩ := opWK_sound ok (draw := draw) h1
    refine ⟨_, h3, fun {bs α β vst vb} S hs => ?_⟩
    obtain ⟨h5, S1⟩ := h2 S
    obtain ⟨v, m', α', β', h6, h7, h8, h9, h10⟩ := h4 (slotv := vb + slotOf ops i) S1.mem (rep_eval S1.tm) (fun ha => by
     have := hs _ (slotW_lt hi (by unfold isAlloc; unfold isAlloc' at ha; exact ha))
     rw [this])
    refine ⟨fun hd => (chkAt_eq hi).2 fun _ => chkQW_sound S1.mem (by simpa [hd] using hck) (rep_eval S1.tm), { vst with tm := putV vst.tm o.dst v, mem := m' }, α', β', ?_, h7, ⟨put_rep (S1.tm.ext h7 h8) _ h10, h9, S1.df.ext h7 h8, S1.rd⟩⟩
    unfold stepAt
    simp only [hi, h5]
    rw [h6]
    rfl
def runWK (cfg : Cfg) (wc : WCfg T) (I : WI T R) (draw : Bool) (ops : Array Oper) (base : Nat) : List Nat → WSt T → (WSt T → Option R) → Option R
 | [], st, k => k st
 | i :: l, st, k => stepWK cfg wc I draw ops base i st fun st' => runWK cfg wc I draw ops base l st' k
theorem Slots.ext {ops : Array Oper} {α α' : List Nat} {wb vb : Nat} (h : Slots ops α wb vb) (ha : α <+: α') : Slots ops α' wb vb := fun s hs => get_pre ha (h s hs)
theorem runWK_sound (ok : CodOk wc.C) (io : IOk cfg wc.C I) {draw : Bool} {ops : Array Oper} {base : Nat} : ∀ (l : List Nat) {st : WSt T} {k : WSt T → Option R} {r : R}, runWK cfg wc I draw ops base l st k = some r →
  ∃ st', k st' = some r ∧ ∀ {bs α β vst vb}, SSim bs wc.C α β st vst → Slots ops α base vb → ∃ vst' α' β', runOps cfg (callW cfg) draw ops vb l vst = some vst' ∧ α <+: α' ∧ SSim bs wc.C α' β' st' vst'
 | [], st, k, r, h => ⟨st, h, fun {bs α β vst vb} S _ => ⟨vst, α, β, rfl, List.prefix_refl _, S⟩⟩
 | i :: l, st, k, r, h => by
  simp only [runWK] at h
  obtain ⟨st1, h1, h2⟩ := stepWK_sound ok io h
  obtain ⟨st2, h3, h4⟩ := runWK_sound ok io l h1
  refine ⟨st2, h3, fun S hs => ?_⟩
  obtain ⟨hck, vst1, α1, β1, h5, h6, S1⟩ := h2 S hs
  obtain ⟨vst2, α2, β2, h7, h8, S2⟩ := h4 S1 (hs.ext h6)
  exact ⟨vst2, α2, β2, runOps_cons.2 ⟨hck, vst1, h5, h7⟩, h6.trans h8, S2⟩
def preAllocW (P : Program) : List Oper → Option (List (List (W T)))
 | [] => some []
 | o :: os =>
  match o.op with
  | .alloc t =>
   match zeroCellsW P t, preAllocW P os with
   | some z, some r => some (z :: r)
   | _, _ => none
  | _ => preAllocW P os
theorem preAllocW_sound {C : Cod T} : ∀ {os : List Oper} {zs : List (List (W T))}, preAllocW P os = some zs → ∃ vzs, preAlloc P os = some vzs ∧ zs.length = vzs.length ∧ zs.length = os.countP isAlloc ∧
  ∀ {bs α β wm m}, WSim bs C α β wm m → ∃ α', α' = α ++ (List.range vzs.length).map (m.A.length + ·) ∧ WSim bs C α' β { wm with A := wm.A ++ zs } { m with A := m.A ++ vzs }
 | [], zs, h => by
  simp only [preAllocW, Option.some.injEq] at h
  subst h
  exact ⟨[], rfl, rfl, rfl, fun {bs α β wm m} S => ⟨α, by simp, by simpa using S⟩⟩
 | o :: os, zs, h => by
  simp only [preAllocW] at h
  split at h
  ·rename_i t hop
   split at h
   ·rename_i z r hz hr
    injection h with h
    subst h
    obtain ⟨vr, h1, h2, h3, h4⟩ := preAllocW_sound hr
    obtain ⟨vz, h5, _, _, _⟩ := zeroCellsW_sound (C := C) hz (α := []) (β := [])
    refine ⟨vz :: vr, ?_, by simp [h2], ?_, fun {bs α β wm m} S => ?_⟩
    ·simp only [preAlloc, hop, h5, h1]
    ·rw [List.countP_cons, List.length_cons, h3]
     simp [isAlloc, hop]
    ·obtain ⟨vz', h5', h6, _, _⟩ := zeroCellsW_sound (C := C) hz (α := α) (β := β)
     rw [h5] at h5'
     injection h5' with h5'
     subst h5'
     obtain ⟨α', h7, S'⟩ := h4 (S.pushA h6 m.hi)
     refine ⟨α', ?_, ?_⟩
     ·rw [h7]
      simp only [List.length_append, List.length_cons, List.length_nil, List.append_assoc]
      rw [List.range_succ_eq_map]
      simp only [List.map_cons, List.map_map, Nat.add_zero, List.singleton_append]
      congr 2
      apply List.map_congr_left
      intro x _
      simp; omega
     ·simpa using S'
   ·cases h
  ·rename_i hop
   obtain ⟨vr, h1, h2, h3, h4⟩ := preAllocW_sound h
   refine ⟨vr, ?_, h2, ?_, h4⟩
   ·simp only [preAlloc]
    exact h1
   ·rw [List.countP_cons, h3]
    have : isAlloc o = false := by
     unfold isAlloc
     split
     ·rename_i t e; exact absurd e (hop t)
     ·rfl
    simp [this]
end Go.Proofs.YtpdgbhjhodhkiaaGreatDoor.AI
set_option linter.unnecessarySimpa false
namespace Go.Proofs.YtpdgbhjhodhkiaaGreatDoor.AI
open Go
variable {T : Nat → Type} {C : Cod T} {R : Type} {P : Program} {cfg : Cfg} {wc : WCfg T} {I : WI T R}
variable {bs : Base} {α α' : List Nat} {β β' : Bt} {wm wm' : WM T} {m m' : Mem}
theorem WSim.within (S : WSim bs C α β wm m) : WSim ⟨m, α, β⟩ C α β { wm with pa := wm.A.length, ph := wm.H.length } m :=
 { S with
   A := S.A
   la := S.la
   lb := S.lb
   pa := List.prefix_refl _
   pb := List.prefix_refl _
   na := fun i j h1 h2 => by have := (List.getElem?_eq_some_iff.1 h1).1; simp only at h2; omega
   nb := fun h b ver n hb => .inl ⟨h, ver, n, hb⟩
   fa := fun _ _ _ => rfl
   fb := fun _ _ _ => rfl
   lenA0 := Nat.le_refl _
   lenB0 := Nat.le_refl _
   la0 := rfl
   lb0 := rfl
   bla := by have := S.la0; have := S.bla; have := S.lenA0; show m.la ≤ m.A.length; omega
   blb := by have := S.lb0; have := S.blb; have := S.lenB0; show m.lb ≤ m.B.length; omega
   hpa := S.lenA
   bα := fun i j h => S.ltA h
   hph := S.lenH }
theorem WSim.not_old (S : WSim bs C α β wm m) {j : Nat} (hj : j < bs.m.A.length) (hn : ∀ (i : Nat), bs.α[i]? ≠ some j) (i : Nat) : α[i]? ≠ some j := by
 intro h
 by_cases hb : i < bs.α.length
 ·have : bs.α[i]? = some j := by
   obtain ⟨r, hr⟩ := S.pa
   rw [← hr, List.getElem?_append_left hb] at h
   exact h
  exact hn i this
 ·have := S.na i j h (by omega)
  omega
theorem WSim.back (S : WSim bs C α β wm m) (S' : WSim ⟨m, α, β⟩ C α' β' wm' m') : WSim bs C α' β' { wm' with pa := wm.pa, ph := wm.ph } m' :=
 { S' with
   A := S'.A
   la := S'.la
   lb := S'.lb
   pa := S.pa.trans S'.pa
   pb := S.pb.trans S'.pb
   na := fun i j h1 h2 => by
    by_cases hi : i < α.length
    ·have : α[i]? = some j := by
      obtain ⟨r, hr⟩ := S'.pa
      simp only at hr
      rw [← hr, List.getElem?_append_left hi] at h1
      exact h1
     exact S.na i j this h2
    ·have h3 := S'.na i j h1 (by simp only; omega)
     have := S.lenA0
     simp only at h3
     omega
   nb := fun h b ver n hb => by
    rcases S'.nb h b ver n hb with ⟨h', ver', n', hb'⟩ | hge
    ·exact S.nb _ _ _ _ hb'
    ·have := S.lenB0
     simp only at hge
     right; omega
   fa := fun j hj hn => by
    have := S.lenA0
    rw [S'.fa j (by simp only; omega) (S.not_old hj hn)]
    exact S.fa j hj hn
   fb := fun b hb hn => by
    have := S.lenB0
    rw [S'.fb b (by simp only; omega) (fun h ver n hh => by
     rcases S.nb _ _ _ _ hh with ⟨h', ver', n', hb'⟩ | hge
     ·exact hn _ _ _ hb'
     ·omega)]
    exact S.fb b hb hn
   lenA0 := Nat.le_trans S.lenA0 S'.lenA0
   lenB0 := Nat.le_trans S.lenB0 S'.lenB0
   la0 := S'.la0.trans S.la0
   lb0 := S'.lb0.trans S.lb0
   bla := S.bla
   blb := S.blb
   hpa := S.hpa
   bα := S.bα
   hph := S.hph }
mutual
def W.low (n : Nat) : W T → Bool
 | .ptr i _ => Nat.blt i n
 | .fn _ ws => lowL n ws
 | .ifc _ w => W.low n w
 | .agg ws => lowL n ws
 | .tup ws => lowL n ws
 | .undef | .bool _ | .int _ _ | .str _ | .nilp | .nilsl | .row _ _ _ | .relem _ _ _ | .own _ _ | .view _ _ _ _ | .oelem _ _ _ _ | .nilm | .map _ | .nilf | .yld _ | .nili => true
def lowL (n : Nat) : List (W T) → Bool
 | [] => true
 | w :: ws => W.low n w && lowL n ws
end
mutual
theorem Rep.low {n : Nat} : ∀ {w : W T} {v : V}, Rep C α β w v → W.low n w = true → Rep C (α.take n) β w v
 | .ptr i _, _, h, hl => by
  simp only [Rep] at h ⊢
  obtain ⟨j, h1, h2⟩ := h
  simp only [W.low, Nat.blt_eq] at hl
  exact ⟨j, by rw [List.getElem?_take, if_pos hl]; exact h1, h2⟩
 | .fn _ ws, _, h, hl => by
  simp only [Rep] at h ⊢
  obtain ⟨vs, h1, h2⟩ := h
  exact ⟨vs, h1, RepL.low h2 (by simpa only [W.low] using hl)⟩
 | .ifc _ w, _, h, hl => by
  simp only [Rep] at h ⊢
  obtain ⟨u, h1, h2⟩ := h
  exact ⟨u, h1, Rep.low h2 (by simpa only [W.low] using hl)⟩
 | .agg ws, _, h, hl => by
  simp only [Rep] at h ⊢
  obtain ⟨vs, h1, h2⟩ := h
  exact ⟨vs, h1, RepL.low h2 (by simpa only [W.low] using hl)⟩
 | .tup ws, _, h, hl => by
  simp only [Rep] at h ⊢
  obtain ⟨vs, h1, h2⟩ := h
  exact ⟨vs, h1, RepL.low h2 (by simpa only [W.low] using hl)⟩
 | .undef, _, h, _ | .bool _, _, h, _ | .int _ _, _, h, _ | .str _, _, h, _ | .nilp, _, h, _ | .nilsl, _, h, _ | .row _ _ _, _, h, _ | .relem _ _ _, _, h, _ | .own _ _, _, h, _
 | .view _ _ _ _, _, h, _ | .oelem _ _ _ _, _, h, _ | .nilm, _, h, _ | .map _, _, h, _ | .nilf, _, h, _ | .yld _, _, h, _ | .nili, _, h, _ => by simpa only [Rep] using h
theorem RepL.low {n : Nat} : ∀ {ws : List (W T)} {vs : List V}, RepL C α β ws vs → lowL n ws = true → RepL C (α.take n) β ws vs
 | [], _, h, _ => by simpa only [RepL] using h
 | w :: ws, _, h, hl => by
  simp only [RepL] at h ⊢
  obtain ⟨v, vs', rfl, h1, h2⟩ := h
  simp only [lowL, Bool.and_eq_true] at hl
  exact ⟨v, vs', rfl, Rep.low h1 hl.1, RepL.low h2 hl.2⟩
end
mutual
theorem Rep.high {n nv : Nat} (hn : ∀ (i j : Nat), α[i]? = some j → n ≤ i → nv ≤ j) : ∀ {w : W T} {v : V}, Rep C α β w v → W.low n w = false → nv < V.maxA v
 | .ptr i _, _, h, hl => by
  simp only [Rep] at h
  obtain ⟨j, h1, rfl⟩ := h
  have hl : n ≤ i := by
   simp only [W.low] at hl
   have : ¬ i < n := by rw [← Nat.blt_eq, hl]; simp
   omega
  have := hn i j h1 hl
  simp only [V.maxA]; omega
 | .fn _ ws, _, h, hl => by
  simp only [Rep] at h
  obtain ⟨vs, rfl, h2⟩ := h
  simp only [V.maxA]
  exact RepL.high hn h2 (by simpa only [W.low] using hl)
 | .ifc _ w, _, h, hl => by
  simp only [Rep] at h
  obtain ⟨u, rfl, h2⟩ := h
  simp only [V.maxA]
  exact Rep.high hn h2 (by simpa only [W.low] using hl)
 | .agg ws, _, h, hl => by
  simp only [Rep] at h
  obtain ⟨vs, rfl, h2⟩ := h
  simp only [V.maxA]
  exact RepL.high hn h2 (by simpa only [W.low] using hl)
 | .tup ws, _, h, hl => by
  simp only [Rep] at h
  obtain ⟨vs, rfl, h2⟩ := h
  simp only [V.maxA]
  exact RepL.high hn h2 (by simpa only [W.low] using hl)
 | .undef, _, h, hl | .bool _, _, h, hl | .int _ _, _, h, hl | .str _, _, h, hl | .nilp, _, h, hl | .nilsl, _, h, hl | .row _ _ _, _, h, hl | .relem _ _ _, _, h, hl | .own _ _, _, h, hl
 | .view _ _ _ _, _, h, hl | .oelem _ _ _ _, _, h, hl | .nilm, _, h, hl | .map _, _, h, hl | .nilf, _, h, hl | .yld _, _, h, hl | .nili, _, h, hl => by simp [W.low] at hl
theorem RepL.high {n nv : Nat} (hn : ∀ (i j : Nat), α[i]? = some j → n ≤ i → nv ≤ j) : ∀ {ws : List (W T)} {vs : List V}, RepL C α β ws vs → lowL n ws = false → nv < maxAL vs
 | [], _, h, hl => by simp [lowL] at hl
 | w :: ws, _, h, hl => by
  simp only [RepL] at h
  obtain ⟨v, vs', rfl, h1, h2⟩ := h
  simp only [maxAL]
  cases hw : W.low n w with
  | false => have := Rep.high hn h1 hw; omega
  | true =>
   have := RepL.high hn h2 (by simpa only [lowL, hw, Bool.true_and] using hl)
   omega
end
def En.low (n : Nat) : En T → Bool
 | .loop _ _ tm _ _ _ _ => lowL n tm
 | _ => true
theorem EnOk.low {n h : Nat} {e : En T} (k : EnOk C α β m h e) (hl : En.low n e = true) : EnOk C (α.take n) β m h e := by
 cases e with
 | dead => trivial
 | rows kk l => exact k
 | map kk kv es => exact k
 | loop s pend tm ps as bo pt =>
  simp only [EnOk] at k ⊢
  obtain ⟨b, ver, nn, tm', k1, k2, k3⟩ := k
  exact ⟨b, ver, nn, tm', k1, k2, k3.low hl⟩
theorem WSim.dropA (S : WSim bs C α β wm m) {n : Nat} (hn : wm.pa ≤ n) (hA : (wm.A.take n).all (lowL n) = true) (hH : wm.H.all (En.low n) = true) : WSim bs C (α.take n) β { wm with A := wm.A.take n } m := by
 have sub : ∀ {i j : Nat}, (α.take n)[i]? = some j → α[i]? = some j ∧ i < n := by
  intro i j h
  rw [List.getElem?_take] at h
  split at h
  ·exact ⟨h, by assumption⟩
  ·cases h
 exact { S with
  lenA := by simp [S.lenA]
  A := fun i j ws h1 h2 => by
   simp only at h2
   have h2' : wm.A[i]? = some ws := by
    rw [List.getElem?_take] at h2
    split at h2
    ·exact h2
    ·cases h2
   obtain ⟨vs, h3, h4⟩ := S.A i j ws (sub h1).1 h2'
   refine ⟨vs, h3, h4.low ?_⟩
   exact List.all_eq_true.1 hA ws (List.mem_of_getElem? h2)
  injA := fun i i' j h1 h2 => S.injA _ _ _ (sub h1).1 (sub h2).1
  la := fun i j h1 h2 => S.la i j (sub h1).1 h2
  H := fun h e he => (S.H h e he).low (List.all_eq_true.1 hH e (List.mem_of_getElem? he))
  pa := by
   have := S.hpa
   obtain ⟨r, hr⟩ := S.pa
   rw [← hr]
   exact ⟨r.take (n - bs.α.length), by rw [List.take_append, List.take_of_length_le (l := bs.α) (by omega)]⟩
  na := fun i j h1 h2 => S.na i j (sub h1).1 h2
  hpa := S.hpa }
theorem WSim.truncA (S : WSim bs C α β wm m) {n : Nat} (hn : bs.m.A.length ≤ n) (ha : ∀ (i j : Nat), α[i]? = some j → j < n) (hl : n ≤ m.A.length) : WSim bs C α β wm { m with A := m.A.take n } :=
 { S with
   A := fun i j ws h1 h2 => by
    obtain ⟨vs, h3, h4⟩ := S.A i j ws h1 h2
    exact ⟨vs, by simp only; rw [List.getElem?_take, if_pos (ha i j h1)]; exact h3, h4⟩
   la := S.la
   H := fun h e he => EnOk.mem (m := m) (fun _ _ _ _ _ => rfl) (S.H h e he)
   lb := S.lb
   ltB := S.ltB
   fa := fun j hj hn' => by
    simp only
    rw [List.getElem?_take, if_pos (by omega)]
    exact S.fa j hj hn'
   fb := S.fb
   lenA0 := by simp only [List.length_take]; omega
   lenB0 := S.lenB0
   la0 := S.la0
   lb0 := S.lb0 }
theorem WSim.hi' (S : WSim bs C α β wm m) (h' : Nat) : WSim bs C α β wm { m with hi := h' } :=
 { S with
   A := S.A
   la := S.la
   H := fun h e he => EnOk.mem (m := m) (fun _ _ _ _ _ => rfl) (S.H h e he)
   lb := S.lb
   ltB := S.ltB
   fa := S.fa
   fb := S.fb
   lenA0 := S.lenA0
   lenB0 := S.lenB0
   la0 := S.la0
   lb0 := S.lb0 }
def knowW (st : WSt T) (o : Operand) (b : Bool) : WSt T :=
 match o with
 | .tmp t => { st with tm := st.tm.set t (.bool b) }
 | _ => st
theorem knowW_sound {st : WSt T} {o : Operand} {b : Bool} (h : evalW st.tm o = .bool b) {vst : St} (S : SSim bs C α β st vst) : SSim bs C α β (knowW st o b) vst := by
 unfold knowW
 split
 ·rename_i t
  simp only [evalW] at h
  refine ⟨?_, S.mem, S.df, S.rd⟩
  have hw : st.tm[t]? = some (.bool b) := by
   rw [List.getD_eq_getElem?_getD] at h
   cases hx : st.tm[t]? with
   | none => rw [hx] at h; simp at h
   | some x => rw [hx] at h; simp at h; rw [h]
  rw [set_self hw]
  exact S.tm
 ·exact S
def sealTK (wm : WM T) (ts : List Tmp) : Nat → List (W T) → (List (W T) × List Nat → Option R) → Option R
 | _, [], k => k ([], [])
 | i, w :: ws, k =>
  if ts.contains i then
   match w with
   | .own kk h => sealK wm (.own kk h) fun w' => sealTK wm ts (i + 1) ws fun x => k (w' :: x.1, h :: x.2)
   | .view kk h off len => sealK wm (.view kk h off len) fun w' => sealTK wm ts (i + 1) ws fun x => k (w' :: x.1, h :: x.2)
   | .undef => none
   | .bool b => sealTK wm ts (i + 1) ws fun x => k (.bool b :: x.1, x.2)
   | .int t b => sealTK wm ts (i + 1) ws fun x => k (.int t b :: x.1, x.2)
   | .str b => sealTK wm ts (i + 1) ws fun x => k (.str b :: x.1, x.2)
   | .nilsl => sealTK wm ts (i + 1) ws fun x => k (.nilsl :: x.1, x.2)
   | .row kk l fl => sealTK wm ts (i + 1) ws fun x => k (.row kk l fl :: x.1, x.2)
   | .agg l => sealTK wm ts (i + 1) ws fun x => k (.agg l :: x.1, x.2)
   | .ptr a b => sealTK wm ts (i + 1) ws fun x => k (.ptr a b :: x.1, x.2)
   | _ => none
  else sealTK wm ts (i + 1) ws fun x => k (w :: x.1, x.2)
def sealWK (ts : List Tmp) (st : WSt T) (k : WSt T → Option R) : Option R :=
 if ts.isEmpty then k st else sealTK st.mem ts 0 st.tm fun x => k { st with tm := x.1, mem := killAll x.2 st.mem }
theorem sealAt_no {m : Mem} {ts : List Tmp} {i : Nat} {v : V} {vs : List V} (h : ∀ b ver off len, v ≠ .sl b ver off len) : sealAt m ts i (v :: vs) = (v :: (sealAt m ts (i + 1) vs).1, (sealAt m ts (i + 1) vs).2) := by
 simp only [sealAt]
 split
 ·first
   | rfl
   | (split
      ·exact absurd rfl (h _ _ _ _)
      ·rfl)
 ·rfl
theorem sealAt_off {m : Mem} {ts : List Tmp} {i : Nat} {v : V} {vs : List V} (h : ts.contains i ≠ true) : sealAt m ts i (v :: vs) = (v :: (sealAt m ts (i + 1) vs).1, (sealAt m ts (i + 1) vs).2) := by
 simp only [sealAt]
 rw [if_neg h]
theorem sealTK_sound (ok : CodOk C) {wm : WM T} {ts : List Tmp} : ∀ (ws : List (W T)) (i : Nat) {k : List (W T) × List Nat → Option R} {r : R}, sealTK wm ts i ws k = some r →
  ∃ x, k x = some r ∧ ∀ {bs α β m vs}, WSim bs C α β wm m → RepL C α β ws vs → RepL C α β x.1 (sealAt m ts i vs).1 ∧ ∀ b ∈ (sealAt m ts i vs).2, ∃ h ∈ x.2, ∃ e ver n, wm.H[h]? = some e ∧ e.live = true ∧ β[h]? = some (some (b, ver, n))
 | [], i, k, r, h => by
  refine ⟨_, h, fun S hr => ?_⟩
  simp only [RepL] at hr
  subst hr
  exact ⟨RepL.nil, by simp [sealAt]⟩
 | w :: ws, i, k, r, h => by
  have key : (∀ {α β v}, Rep C α β w v → ∀ b ver off len, v ≠ .sl b ver off len) → (sealTK wm ts (i + 1) ws fun x => k (w :: x.1, x.2)) = some r → ∃ x, k x = some r ∧ ∀ {bs α β m vs}, WSim bs C α β wm m → RepL C α β (w :: ws) vs → RepL C α β x.1 (sealAt m ts i vs).1 ∧ ∀ b ∈ (sealAt m ts i vs).2, ∃ h ∈ x.2, ∃ e ver n, wm.H[h]? = some e ∧ e.live = true ∧ β[h]? = some (some (b, ver, n)) := by
   intro hne h
   obtain ⟨x, h1, h2⟩ := sealTK_sound ok ws (i + 1) h
   refine ⟨_, h1, fun {bs α β m vs} S hr => ?_⟩
   simp only [RepL] at hr
   obtain ⟨v, vs', rfl, hr1, hr2⟩ := hr
   rw [sealAt_no (hne hr1)]
   obtain ⟨g1, g2⟩ := h2 S hr2
   exact ⟨RepL.cons hr1 g1, g2⟩
  have key2 : ∀ (hd : Nat) (w0 : W T), w = w0 → (w0 = .own 0 0 ∨ True) → W.used w0 = [hd] → (sealK wm w0 fun w' => sealTK wm ts (i + 1) ws fun x => k (w' :: x.1, hd :: x.2)) = some r → (∀ {α β v}, Rep C α β w0 v → (∃ fl, v = .ro [] 0 fl) ∨ ∃ b ver off len, v = .sl b ver off len) → ts.contains i = true → ∃ x, k x = some r ∧ ∀ {bs α β m vs}, WSim bs C α β wm m → RepL C α β (w :: ws) vs → RepL C α β x.1 (sealAt m ts i vs).1 ∧ ∀ b ∈ (sealAt m ts i vs).2, ∃ h ∈ x.2, ∃ e ver n, wm.H[h]? = some e ∧ e.live = true ∧ β[h]? = some (some (b, ver, n)) := by
   intro hd w0 hw0 _ hud h hrep hc
   subst hw0
   have hus := @sealK_used T C R wm w _ r h
   obtain ⟨w', h0, hn, hs⟩ := sealK_sound ok w h
   obtain ⟨x, h1, h2⟩ := sealTK_sound ok ws (i + 1) h0
   refine ⟨_, h1, fun {bs α β m vs} S hr => ?_⟩
   simp only [RepL] at hr
   obtain ⟨v, vs', rfl, hr1, hr2⟩ := hr
   obtain ⟨g1, g2⟩ := h2 S hr2
   obtain ⟨v', s1, s2⟩ := hs S hr1
   rcases hrep hr1 with ⟨fl, rfl⟩ | ⟨b, ver, off, len, rfl⟩
   ·rw [sealAt_no (fun _ _ _ _ h => by cases h)]
    have : v' = .ro [] 0 fl := by
     simp only [shut] at s1
     split at s1
     ·injection s1 with s1; exact s1.symm
     ·cases s1
    subst this
    exact ⟨RepL.cons (noref_any s2 hn) g1, fun b hb => by
     obtain ⟨h', k1, k2⟩ := g2 b hb
     exact ⟨h', List.mem_cons_of_mem _ k1, k2⟩⟩
   ·have e : sealAt m ts i (V.sl b ver off len :: vs') = (v' :: (sealAt m ts (i + 1) vs').1, b :: (sealAt m ts (i + 1) vs').2) := by
     simp only [sealAt]
     rw [if_pos hc, s1]
    rw [e]
    refine ⟨RepL.cons (noref_any s2 hn) g1, fun b' hb => ?_⟩
    rcases List.mem_cons.1 hb with rfl | hb
    ·obtain ⟨h', k1, k2⟩ := hus hr1 b' (by simp [V.used])
     rw [hud, List.mem_singleton] at k1
     subst k1
     exact ⟨h', List.mem_cons_self, k2⟩
    ·obtain ⟨h', k1, k2⟩ := g2 b' hb
     exact ⟨h', List.mem_cons_of_mem _ k1, k2⟩
  simp only [sealTK] at h
  split at h
  ·rename_i hc
   split at h
   ·exact key2 _ _ rfl (.inr trivial) rfl h (fun hr => by
     simp only [Rep] at hr
     rcases hr with ⟨_, rfl⟩ | ⟨b, ver, n, _, rfl⟩
     ·exact .inl ⟨_, rfl⟩
     ·exact .inr ⟨_, _, _, _, rfl⟩) hc
   ·exact key2 _ _ rfl (.inr trivial) rfl h (fun hr => by
     simp only [Rep] at hr
     rcases hr with ⟨_, _, _, fl, rfl⟩ | ⟨b, ver, n, _, rfl⟩
     ·exact .inl ⟨_, rfl⟩
     ·exact .inr ⟨_, _, _, _, rfl⟩) hc
   ·cases h
   ·exact key (fun hr b ver off len e => by simp only [Rep] at hr; subst hr; cases e) h
   ·exact key (fun hr b ver off len e => by simp only [Rep] at hr; subst hr; cases e) h
   ·exact key (fun hr b ver off len e => by simp only [Rep] at hr; subst hr; cases e) h
   ·exact key (fun hr b ver off len e => by simp only [Rep] at hr; subst hr; cases e) h
   ·exact key (fun hr b ver off len e => by simp only [Rep] at hr; obtain ⟨_, _, rfl, _⟩ := hr; cases e) h
   ·exact key (fun hr b ver off len e => by simp only [Rep] at hr; obtain ⟨_, rfl, _⟩ := hr; cases e) h
   ·exact key (fun hr b ver off len e => by simp only [Rep] at hr; obtain ⟨_, _, rfl⟩ := hr; cases e) h
   ·cases h
  ·rename_i hc
   obtain ⟨x, h1, h2⟩ := sealTK_sound ok ws (i + 1) h
   refine ⟨_, h1, fun {bs α β m vs} S hr => ?_⟩
   simp only [RepL] at hr
   obtain ⟨v, vs', rfl, hr1, hr2⟩ := hr
   rw [sealAt_off hc]
   obtain ⟨g1, g2⟩ := h2 S hr2
   exact ⟨RepL.cons hr1 g1, g2⟩
theorem sealWK_sound (ok : CodOk C) {ts : List Tmp} {st : WSt T} {k : WSt T → Option R} {r : R} (h : sealWK ts st k = some r) :
  ∃ st', k st' = some r ∧ ∀ {bs α β vst}, SSim bs C α β st vst → SSim bs C α β st' (sealSt ts vst) := by
 unfold sealWK at h
 split at h
 ·rename_i he
  refine ⟨_, h, fun S => ?_⟩
  unfold sealSt
  rw [if_pos he]
  exact S
 ·rename_i he
  obtain ⟨x, h1, h2⟩ := sealTK_sound ok st.tm 0 h
  refine ⟨_, h1, fun {bs α β vst} S => ?_⟩
  obtain ⟨g1, g2⟩ := h2 S.mem S.tm
  unfold sealSt
  rw [if_neg he]
  refine ⟨g1, ?_, S.df, S.rd⟩
  refine WSim.frozen (WSim.killAll _ S.mem) _ (fun h e b ver n he hl hb hbu => ?_) (fun b hb => ?_)
  ·obtain ⟨k1, k2⟩ := killAll_get _ _ _ _ he hl
   obtain ⟨h', j1, e', ver', n', j2, j3, j4⟩ := g2 b hbu
   have := S.mem.injH _ _ _ _ _ _ _ _ _ k1 j2 hl j3 hb j4
   subst this
   exact k2 j1
  ·obtain ⟨h', j1, e', ver', n', j2, j3, j4⟩ := g2 b hb
   exact ⟨h', ver', n', j4⟩
def readTs : Code → List Nat
 | .region _ ops _ => ops.toList.flatMap fun o => tmpsOf o.op.operands.toList ++ (match o.guard with | some (j, _) => ((ops[j]?).bind (·.dst)).toList | none => [])
 | .seq a b => readTs a ++ readTs b
 | .cond c a b => tmpsOf [c] ++ readTs a ++ readTs b
 | .block _ c => readTs c
 | .loop c => readTs c
 | .rangeFunc f _ a b => tmpsOf [f] ++ readTs a ++ readTs b
 | _ => []
def maskT (ts : List Nat) : Nat → List (W T) → List (W T)
 | _, [] => []
 | i, w :: ws => (if ts.contains i then w else .undef) :: maskT ts (i + 1) ws
theorem maskT_rep {ts : List Nat} : ∀ {ws : List (W T)} {i : Nat} {vs : List V}, RepL C α β ws vs → RepL C α β (maskT ts i ws) vs
 | [], i, vs, h => h
 | w :: ws, i, vs, h => by
  simp only [RepL] at h
  obtain ⟨v, vs', rfl, h1, h2⟩ := h
  simp only [maskT]
  refine RepL.cons ?_ (maskT_rep h2)
  split
  ·exact h1
  ·simp only [Rep]
def execWK (cfg : Cfg) (wc : WCfg T) (I : WI T R) : Code → List Nat → WSt T → (Ex × WSt T → Option R) → Option R
 | .skip, _, st, k => k (.normal, st)
 | .label _, _, st, k => k (.normal, st)
 | .region _ ops draw, _, st, k =>
  sealWK (sealTs cfg ops.toList) st fun st =>
  if draw && !drawOk cfg ops then none else
  match preAllocW cfg.P ops.toList with
  | none => none
  | some zs => runWK cfg wc I draw ops st.mem.A.length (List.range ops.size) { st with mem := { st.mem with A := st.mem.A ++ zs } } fun st' => k (.normal, st')
 | .seq a b, p, st, k => if I.blk p then I.cut (.seq a b) p st k else execWK cfg wc I a (0 :: p) st fun x =>
  match x with
  | (.normal, st1) => execWK cfg wc I b (1 :: p) st1 k
  | (.exit id, st1) => k (.exit id, st1)
  | (.ret, st1) => k (.ret, st1)
 | .cond c a b, p, st, k => if I.blk p then I.cut (.cond c a b) p st k else
  match evalW st.tm c with
  | .bool t => cnd t (execWK cfg wc I a (0 :: p) (knowW st c true) k) (execWK cfg wc I b (1 :: p) (knowW st c false) k)
  | _ => none
 | .block id c, p, st, k => if I.blk p then I.cut (.block id c) p st k else execWK cfg wc I c (0 :: p) st fun x =>
  match x with
  | (.exit id', st1) => if id' = id then k (.normal, st1) else k (.exit id', st1)
  | (.normal, st1) => k (.normal, st1)
  | (.ret, st1) => k (.ret, st1)
 | .loop c, p, st, k => I.loop c p st k
 | .rangeFunc f ps assign body, p, st, k =>
  if st.rd then none else
  match evalW st.tm f with
  | .fn g caps =>
   I.call g (.yld st.mem.H.length :: caps) { st.mem with H := st.mem.H ++ [.loop .ready none (maskT (readTs assign ++ readTs body) 0 st.tm) ps.toList assign body p] } fun (_, wm) =>
    match wm.H[st.mem.H.length]? with
    | some (.loop s pend tm ps' as' bo' pt) =>
     if s = .busy then none else
     if st.mem.lh ≤ st.mem.H.length then
     match pend with
     | none => k (.normal, { st with mem := { wm with H := wm.H.set st.mem.H.length .dead } })
     | some .ret => k (.ret, { st with mem := { wm with H := wm.H.set st.mem.H.length .dead } })
     | some (.exit id) => k (.exit id, { st with mem := { wm with H := wm.H.set st.mem.H.length .dead } })
     | _ => none
     else none
    | _ => none
  | _ => none
 | .exit id, _, st, k => k (.exit id, st)
 | .ret, _, st, k => k (.ret, st)
 | .scope _, _, _, _ => none
 | .goto _, _, _, _ => none
 | .refuse _, _, _, _ => none
def pendEx : Option Code → Option Ex
 | none => some .normal
 | some .ret => some .ret
 | some (.exit id) => some (.exit id)
 | _ => none
theorem execWK_sound (ok : CodOk wc.C) (io : IOk cfg wc.C I) : ∀ (c : Code) (p : List Nat) {st : WSt T} {k : Ex × WSt T → Option R} {r : R}, execWK cfg wc I c p st k = some r → ∃ x, k x = some r ∧ LoopSaid cfg wc.C c st x
 | .skip, p, st, k, r, h => ⟨_, h, fun {bs α β vst} S => ⟨vst, α, β, rfl, List.prefix_refl _, S⟩⟩
 | .label _, p, st, k, r, h => ⟨_, h, fun {bs α β vst} S => ⟨vst, α, β, rfl, List.prefix_refl _, S⟩⟩
 | .exit id, p, st, k, r, h => ⟨_, h, fun {bs α β vst} S => ⟨vst, α, β, rfl, List.prefix_refl _, S⟩⟩
 | .ret, p, st, k, r, h => ⟨_, h, fun {bs α β vst} S => ⟨vst, α, β, rfl, List.prefix_refl _, S⟩⟩
 | .region _ ops draw, p, st, k, r, h => by
  simp only [execWK] at h
  obtain ⟨st1, h, hseal⟩ := sealWK_sound ok h
  split at h
  ·cases h
  ·rename_i hd
   split at h
   ·cases h
   ·rename_i zs hz
    obtain ⟨st', h1, h2⟩ := runWK_sound ok io _ h
    refine ⟨_, h1, fun {bs α β vst} S0 => ?_⟩
    have S := hseal S0
    obtain ⟨vzs, h3, h4, h5, h6⟩ := preAllocW_sound (C := wc.C) hz
    obtain ⟨α1, h7, S1⟩ := h6 S.mem
    have hpre : α <+: α1 := by rw [h7]; exact pre_app _ _
    have S2 : SSim bs wc.C α1 β { st1 with mem := { st1.mem with A := st1.mem.A ++ zs } } { sealSt (sealTs cfg ops.toList) vst with mem := { (sealSt (sealTs cfg ops.toList) vst).mem with A := (sealSt (sealTs cfg ops.toList) vst).mem.A ++ vzs } } := ⟨S.tm.ext hpre (List.prefix_refl _), S1, S.df.ext hpre (List.prefix_refl _), S.rd⟩
    have hsl : Slots ops α1 st1.mem.A.length (sealSt (sealTs cfg ops.toList) vst).mem.A.length := by
     intro s hs
     rw [← h5, h4] at hs
     rw [h7, ← S.mem.lenA, List.getElem?_append_right (by omega), Nat.add_sub_cancel_left]
     simp [hs]
    obtain ⟨vst', α', β', h8, h9, S3⟩ := h2 S2 hsl
    refine ⟨vst', α', β', ?_, hpre.trans h9, S3⟩
    simp only [exec, regV]
    rw [if_neg hd]
    simp only [h3, h8, Option.map_some]
 | .seq a b, p, st, k, r, h => by
  simp only [execWK] at h
  split at h
  ·exact io.cut h
  ·obtain ⟨⟨e, s⟩, h2, h1⟩ := execWK_sound ok io a (0 :: p) h
   cases e with
   | normal =>
    obtain ⟨x, h4, h3⟩ := execWK_sound ok io b (1 :: p) h2
    refine ⟨x, h4, fun S => ?_⟩
    obtain ⟨v1, α1, β1, h5, h6, S1⟩ := h1 S
    obtain ⟨v2, α2, β2, h7, h8, S2⟩ := h3 S1
    exact ⟨v2, α2, β2, by simp only [exec, h5, h7], h6.trans h8, S2⟩
   | exit id =>
    refine ⟨_, h2, fun S => ?_⟩
    obtain ⟨v1, α1, β1, h5, h6, S1⟩ := h1 S
    exact ⟨v1, α1, β1, by simp only [exec, h5], h6, S1⟩
   | ret =>
    refine ⟨_, h2, fun S => ?_⟩
    obtain ⟨v1, α1, β1, h5, h6, S1⟩ := h1 S
    exact ⟨v1, α1, β1, by simp only [exec, h5], h6, S1⟩
 | .cond c a b, p, st, k, r, h => by
  simp only [execWK] at h
  split at h
  ·exact io.cut h
  ·split at h
   ·rename_i t ht
    have know : ∀ {bs α β vst}, SSim bs wc.C α β st vst → evalO vst.tm c = .bool t := by
     intro bs α β vst S
     have := rep_eval S.tm c
     rw [ht] at this
     simpa only [Rep] using this
    rcases cond_cases h with ⟨rfl, h⟩ | ⟨rfl, h⟩
    ·obtain ⟨x, h4, h3⟩ := execWK_sound ok io a (0 :: p) h
     refine ⟨x, h4, fun S => ?_⟩
     obtain ⟨v1, α1, β1, h5, h6, S1⟩ := h3 (knowW_sound ht S)
     exact ⟨v1, α1, β1, by simp only [exec, know S, h5], h6, S1⟩
    ·obtain ⟨x, h4, h3⟩ := execWK_sound ok io b (1 :: p) h
     refine ⟨x, h4, fun S => ?_⟩
     obtain ⟨v1, α1, β1, h5, h6, S1⟩ := h3 (knowW_sound ht S)
     exact ⟨v1, α1, β1, by simp only [exec, know S, h5], h6, S1⟩
   ·cases h
 | .block id c, p, st, k, r, h => by
  simp only [execWK] at h
  split at h
  ·exact io.cut h
  ·obtain ⟨⟨e, s⟩, h2, h1⟩ := execWK_sound ok io c (0 :: p) h
   cases e with
   | normal =>
    refine ⟨_, h2, fun S => ?_⟩
    obtain ⟨v1, α1, β1, h5, h6, S1⟩ := h1 S
    exact ⟨v1, α1, β1, by simp only [exec, h5], h6, S1⟩
   | ret =>
    refine ⟨_, h2, fun S => ?_⟩
    obtain ⟨v1, α1, β1, h5, h6, S1⟩ := h1 S
    exact ⟨v1, α1, β1, by simp only [exec, h5], h6, S1⟩
   | exit id' =>
    simp only at h2
    split at h2
    ·rename_i hid
     refine ⟨_, h2, fun S => ?_⟩
     obtain ⟨v1, α1, β1, h5, h6, S1⟩ := h1 S
     exact ⟨v1, α1, β1, by simp only [exec, h5, hid, if_true], h6, S1⟩
    ·rename_i hid
     refine ⟨_, h2, fun S => ?_⟩
     obtain ⟨v1, α1, β1, h5, h6, S1⟩ := h1 S
     exact ⟨v1, α1, β1, by simp only [exec, h5, hid, if_false], h6, S1⟩
 | .loop c, p, st, k, r, h => by
  simp only [execWK] at h
  exact io.loop h
 | .rangeFunc f ps assign body, p, st, k, r, h => by
  simp only [execWK] at h
  split at h
  ·cases h
  ·rename_i hrd
   split at h
   ·rename_i g caps hf
    obtain ⟨w, wm', h1, h2⟩ := io.call h
    simp only at h1
    split at h1
    ·rename_i s pend tm ps' as' bo' pt he
     split at h1
     ·cases h1
     ·rename_i hs
      split at h1
      ·rename_i hlh
       have key : ∀ (e : Ex), pendEx pend = some e →
         LoopSaid cfg wc.C (.rangeFunc f ps assign body) st (e, { st with mem := { wm' with H := wm'.H.set st.mem.H.length .dead } }) := by
        intro e hpe bs α β vst S
        have h3 := rep_eval S.tm f
        rw [hf] at h3
        simp only [Rep] at h3
        obtain ⟨vcaps, h3, h4⟩ := h3
        have hlen : β.length = st.mem.H.length := S.mem.lenH
        have S1 := S.mem.pushB (ver := 0) (n := 0) (hi' := max vst.mem.hi (maxAL vst.tm)) (e := .loop .ready none (maskT (readTs assign ++ readTs body) 0 st.tm) ps.toList assign body p) (bb := .loop .ready none vst.tm ps.toList assign body) (by
         simp only [EnOk]
         exact ⟨vst.mem.B.length, 0, 0, vst.tm, by simp, by simp, (maskT_rep S.tm).ext (List.prefix_refl _) (pre_app _ _)⟩)
        obtain ⟨v, m', α', β', h5, h6, h7, S2, _⟩ := h2 S1 (RepL.cons (v := .yld vst.mem.B.length) (vs := vcaps) (by
         simp only [Rep]
         exact ⟨vst.mem.B.length, 0, 0, by rw [← hlen]; simp, rfl⟩) (h4.ext (List.prefix_refl _) (pre_app _ _)))
        have hb : β'[st.mem.H.length]? = some (some (vst.mem.B.length, 0, 0)) := get_pre h7 (by rw [← hlen]; simp)
        have hE := S2.H _ _ he
        simp only [EnOk] at hE
        obtain ⟨b, ver, n, tm', hb', hB, htm⟩ := hE
        rw [hb] at hb'
        injection hb' with hb'; injection hb' with hb'
        simp only [Prod.mk.injEq] at hb'
        obtain ⟨rfl, rfl, rfl⟩ := hb'
        have S3 := S2.setB (hi' := m'.hi) he rfl hb (e' := .dead) (bb := .loop .exhausted pend tm' ps' as' bo') trivial
        have hpb : β <+: β' := (pre_app _ _).trans h7
        refine ⟨{ vst with mem := { m' with B := m'.B.set vst.mem.B.length (.loop .exhausted pend tm' ps' as' bo') } }, α', β', ?_, h6, ⟨S.tm.ext h6 hpb, S3, S.df.ext h6 hpb, S.rd⟩⟩
        simp only [exec]
        rw [if_neg (by rw [S.rd]; exact hrd)]
        simp only [h3, h5, hB]
        rw [if_neg hs]
        cases pend with
        | none => cases hpe; rfl
        | some c => cases c <;> first | (cases hpe; rfl) | cases hpe
       split at h1
       ·exact ⟨_, h1, key .normal rfl⟩
       ·exact ⟨_, h1, key .ret rfl⟩
       ·rename_i id
        exact ⟨_, h1, key (.exit id) rfl⟩
       ·cases h1
      ·cases h1
    ·cases h1
   ·cases h
 | .scope _, p, st, k, r, h => by simp [execWK] at h
 | .goto _, p, st, k, r, h => by simp [execWK] at h
 | .refuse _, p, st, k, r, h => by simp [execWK] at h
end Go.Proofs.YtpdgbhjhodhkiaaGreatDoor.AI
namespace Go.Proofs.YtpdgbhjhodhkiaaGreatDoor.AI
open Go
variable {T : Nat → Type} {C : Cod T} {R : Type} {P : Program} {cfg : Cfg} {wc : WCfg T} {I : WI T R}
variable {bs : Base} {α α' : List Nat} {β β' : Bt} {wm wm' : WM T} {m m' : Mem}
def runDfK (wc : WCfg T) (P : Program) : List (TypeId × W T × W T) → WM T → (WM T → Option R) → Option R
 | [], wm, k => k wm
 | (t, x, key) :: ds, wm, k => delWK wc P wm t x key fun wm' => runDfK wc P ds wm' k
theorem runDfK_sound (ok : CodOk wc.C) : ∀ {ds : List (TypeId × W T × W T)} {wm : WM T} {k : WM T → Option R} {r : R}, runDfK wc P ds wm k = some r →
  ∃ wm', k wm' = some r ∧ ∀ {bs α β m vds}, WSim bs wc.C α β wm m → DfR wc.C α β ds vds → ∃ m', runDf P vds m = some m' ∧ WSim bs wc.C α β wm' m'
 | [], wm, k, r, h => ⟨wm, h, fun {bs α β m vds} S hd => by cases hd; exact ⟨m, rfl, S⟩⟩
 | (t, x, key) :: ds, wm, k, r, h => by
  simp only [runDfK] at h
  obtain ⟨wm1, h1, h2⟩ := delWK_sound ok h
  obtain ⟨wm2, h3, h4⟩ := runDfK_sound ok h1
  refine ⟨wm2, h3, fun S hd => ?_⟩
  cases hd with
  | cons r1 r2 hd =>
   obtain ⟨m1, h5, S1⟩ := h2 S r1 r2
   obtain ⟨m2, h6, S2⟩ := h4 S1 hd
   exact ⟨m2, by simp only [runDf, h5, Option.bind_some, h6], S2⟩
def resultsWK (C : Cod T) (P : Program) (wm : WM T) (tm : List (W T)) : List ResultVar → (List (W T) → Option R) → Option R
 | [], k => k []
 | .tmp t :: rs, k => resultsWK C P wm tm rs fun ws => k (tm.getD t .undef :: ws)
 | .cell a t :: rs, k => loadWK C P wm t (tm.getD a .undef) fun w => resultsWK C P wm tm rs fun ws => k (w :: ws)
theorem resultsWK_sound (ok : CodOk C) {wm : WM T} {tm : List (W T)} : ∀ {rs : List ResultVar} {k : List (W T) → Option R} {r : R}, resultsWK C P wm tm rs k = some r →
  ∃ ws, k ws = some r ∧ ∀ {bs α β m vtm}, WSim bs C α β wm m → RepL C α β tm vtm → ∃ vs, resultsV P m vtm rs = some vs ∧ RepL C α β ws vs
 | [], k, r, h => ⟨[], h, fun {bs α β m vtm} S ht => ⟨[], rfl, RepL.nil⟩⟩
 | .tmp t :: rs, k, r, h => by
  simp only [resultsWK] at h
  obtain ⟨ws, h1, h2⟩ := resultsWK_sound ok h
  refine ⟨_, h1, fun {bs α β m vtm} S ht => ?_⟩
  obtain ⟨vs, h3, h4⟩ := h2 S ht
  exact ⟨vtm.getD t .undef :: vs, by simp only [resultsV, h3], RepL.cons (rep_getD ht t) h4⟩
 | .cell a t :: rs, k, r, h => by
  simp only [resultsWK] at h
  obtain ⟨w, h1, h2⟩ := loadWK_sound ok h
  obtain ⟨ws, h3, h4⟩ := resultsWK_sound ok h1
  refine ⟨_, h3, fun {bs α β m vtm} S ht => ?_⟩
  obtain ⟨v, h5, h6⟩ := h2 S (rep_getD ht a)
  obtain ⟨vs, h7, h8⟩ := h4 S ht
  exact ⟨v :: vs, by simp only [resultsV, h5, h7], RepL.cons h6 h8⟩
def tupW : List (W T) → W T
 | [w] => w
 | ws => .tup ws
theorem tupW_rep {ws : List (W T)} {vs : List V} (h : RepL C α β ws vs) : Rep C α β (tupW ws) (tupV vs) := by
 have hl := h.length
 match ws, vs, hl with
 | [], [], _ => simp only [tupW, tupV, Rep]; exact ⟨_, rfl, h⟩
 | [w], [v], _ => exact (RepL.cons_iff.1 h).1
 | _ :: _ :: _, _ :: _ :: _, _ => simp only [tupW, tupV, Rep]; exact ⟨_, rfl, h⟩
def leaveWK (wc : WCfg T) (P : Program) (fn : Func) (na : Nat) (x : Ex × WSt T) (k : W T × WM T → Option R) : Option R :=
 match x.1 with
 | .exit _ => none
 | _ => runDfK wc P x.2.df x.2.mem fun wm => resultsWK wc.C P wm x.2.tm fn.results.toList fun ws =>
  if ((wm.A.take na).all (lowL na) && wm.H.all (En.low na)) = true then
   (if W.low na (tupW ws) = true then k (tupW ws, { wm with A := wm.A.take na }) else k (tupW ws, wm))
  else none
theorem take_pre {X : Type} {l l' : List X} (h : l <+: l') : l'.take l.length = l := by
 obtain ⟨r, rfl⟩ := h; simp
theorem leaveWK_sound (ok : CodOk wc.C) {fn : Func} {na : Nat} {x : Ex × WSt T} {k : W T × WM T → Option R} {r : R} (h : leaveWK wc P fn na x k = some r) :
  ∃ w wm', k (w, wm') = some r ∧ ∀ {bs α β vst}, bs.α.length = na → SSim bs wc.C α β x.2 vst → ∃ v m' α', leaveV P fn bs.m.A.length (x.1, vst) = some (v, m') ∧ WSim bs wc.C α' β wm' m' ∧ Rep wc.C α' β w v := by
 unfold leaveWK at h
 obtain ⟨e, st⟩ := x
 have main : (runDfK wc P st.df st.mem fun wm => resultsWK wc.C P wm st.tm fn.results.toList fun ws =>
  if ((wm.A.take na).all (lowL na) && wm.H.all (En.low na)) = true then
   (if W.low na (tupW ws) = true then k (tupW ws, { wm with A := wm.A.take na }) else k (tupW ws, wm))
  else none) = some r → (∀ id, e ≠ .exit id) → ∃ w wm', k (w, wm') = some r ∧ ∀ {bs α β vst}, bs.α.length = na → SSim bs wc.C α β st vst → ∃ v m' α', leaveV P fn bs.m.A.length (e, vst) = some (v, m') ∧ WSim bs wc.C α' β wm' m' ∧ Rep wc.C α' β w v := by
  intro h hne
  obtain ⟨wm1, h1, h2⟩ := runDfK_sound ok h
  obtain ⟨ws, h3, h4⟩ := resultsWK_sound ok h1
  split at h3
  ·rename_i hlow
   simp only [Bool.and_eq_true] at hlow
   have lv : ∀ {n vst m1 vs}, runDf P vst.df vst.mem = some m1 → resultsV P m1 vst.tm fn.results.toList = some vs → leaveV P fn n (e, vst) = some (tupV vs, truncA n (tupV vs) m1) := by
    intro n vst m1 vs g1 g2
    cases e with
    | exit id => exact absurd rfl (hne id)
    | normal => simp only [leaveV, g1, Option.bind_some, g2, Option.map_some]
    | ret => simp only [leaveV, g1, Option.bind_some, g2, Option.map_some]
   split at h3
   ·rename_i hw
    refine ⟨_, _, h3, fun {bs α β vst} hna S => ?_⟩
    obtain ⟨m1, g1, S1⟩ := h2 S.mem S.df
    obtain ⟨vs, g2, hr⟩ := h4 S1 S.tm
    have S2 := S1.dropA (n := na) (by rw [← S1.hpa, hna]; exact Nat.le_refl _) hlow.1 hlow.2
    have ht : α.take na = bs.α := by rw [← hna]; exact take_pre S1.pa
    have hr' := (tupW_rep hr).low hw
    refine ⟨_, _, α.take na, lv g1 g2, ?_, hr'⟩
    unfold truncA
    split
    ·rename_i hc
     refine S2.truncA (Nat.le_refl _) (fun i j hij => ?_) hc.2.2
     rw [ht] at hij
     exact S1.bα i j hij
    ·exact S2
   ·rename_i hw
    refine ⟨_, _, h3, fun {bs α β vst} hna S => ?_⟩
    obtain ⟨m1, g1, S1⟩ := h2 S.mem S.df
    obtain ⟨vs, g2, hr⟩ := h4 S1 S.tm
    have hr' := tupW_rep hr
    have hhi := hr'.high (n := na) (nv := bs.m.A.length) (fun i j h1 h2 => S1.na i j h1 (by omega)) (by simpa using hw)
    refine ⟨_, _, α, lv g1 g2, ?_, hr'⟩
    unfold truncA
    rw [if_neg (by intro hc; omega)]
    exact S1
  ·cases h3
 cases e with
 | exit id => cases h
 | normal => exact main h (fun id he => by cases he)
 | ret => exact main h (fun id he => by cases he)
def enterW (fn : Func) (args : List (W T)) (wm : WM T) : WSt T := { tm := args ++ List.replicate (fn.ntmps - args.length) (.tup []), mem := wm, df := [], rd := false }
def inW (wm : WM T) : WM T := { wm with pa := wm.A.length, ph := wm.H.length }
def outW (wm wm' : WM T) : WM T := { wm' with pa := wm.pa, ph := wm.ph }
def bodyWK (cfg : Cfg) (wc : WCfg T) (I : WI T R) (f : FuncId) (ws : List (W T)) (wm : WM T) (k : W T × WM T → Option R) : Option R :=
 match cfg.P.funcs[f]? with
 | some fn =>
  match fn.body with
  | some c => if cfg.ok f = true then execWK cfg wc I c [f] (enterW fn ws (inW wm)) fun x => leaveWK wc cfg.P fn wm.A.length x fun (w, wm') => k (w, outW wm wm') else none
  | none => none
 | none => none
theorem enterW_sound {fn : Func} {ws : List (W T)} {vs : List V} (S : WSim bs C α β wm m) (h : RepL C α β ws vs) : SSim ⟨m, α, β⟩ C α β (enterW fn ws (inW wm)) (enterSt fn vs m) := by
 refine ⟨?_, S.within, DfR.nil, rfl⟩
 simp only [enterW, enterSt]
 rw [h.length]
 exact h.append (RepL.replicate _ rep_unit)
theorem bodyWK_sound (ok : CodOk wc.C) (io : IOk cfg wc.C I) {f : FuncId} {ws : List (W T)} {wm : WM T} {k : W T × WM T → Option R} {r : R} (h : bodyWK cfg wc I f ws wm k = some r) :
  ∃ w wm', k (w, wm') = some r ∧ CallSaid wc.C ws wm wm' w (callW cfg (.fn f)) := by
 unfold bodyWK at h
 split at h
 ·rename_i fn hf
  split at h
  ·rename_i c hb
   split at h
   ·rename_i hok
    obtain ⟨x, h1, h2⟩ := execWK_sound ok io c [f] h
    obtain ⟨w, wm', h3, h4⟩ := leaveWK_sound ok h1
    refine ⟨w, _, h3, fun {bs α β m vs} S hr => ?_⟩
    obtain ⟨vx, α1, β1, h5, h6, S1⟩ := h2 (enterW_sound (fn := fn) S hr)
    obtain ⟨v, m', α2, h7, S2, hr2⟩ := h4 (bs := ⟨m, α, β⟩) S.lenA S1
    refine ⟨v, m', α2, β1, ?_, S2.pa, S2.pb, S.back S2, hr2⟩
    rw [callW_fn hf hb hok, h5, Option.bind_some]
    exact h7
   ·cases h
  ·cases h
 ·cases h
def setManyW : List (W T) → List Tmp → List (W T) → List (W T)
 | tm, t :: ts, a :: as => setManyW (tm.set t a) ts as
 | tm, _, _ => tm
theorem setManyW_rep : ∀ {ps : List Tmp} {tm ws : List (W T)} {vtm vs : List V}, RepL C α β tm vtm → RepL C α β ws vs → RepL C α β (setManyW tm ps ws) (setMany vtm ps vs)
 | [], tm, ws, vtm, vs, h, hr => by simp only [setManyW, setMany]; exact h
 | t :: ps, tm, [], vtm, vs, h, hr => by simp only [RepL] at hr; subst hr; simp only [setManyW, setMany]; exact h
 | t :: ps, tm, w :: ws, vtm, vs, h, hr => by
  simp only [RepL] at hr
  obtain ⟨v, vs', rfl, h1, h2⟩ := hr
  simp only [setManyW, setMany]
  exact setManyW_rep (h.set t h1) h2
def endRoundWK (na h : Nat) (x : Ex × WSt T) (k : W T × WM T → Option R) : Option R :=
 match x.2.mem.H[h]? with
 | some (.loop _ _ tm ps as bo pt) =>
  if x.2.mem.lh ≤ h ∧ (x.2.mem.A.take na).all (lowL na) = true ∧ x.2.mem.H.all (En.low na) = true then
   match x.1 with
   | .normal => k (.bool true, { x.2.mem with A := x.2.mem.A.take na, H := x.2.mem.H.set h (.loop .ready none tm ps as bo pt) })
   | .ret => k (.bool false, { x.2.mem with A := x.2.mem.A.take na, H := x.2.mem.H.set h (.loop .done (some .ret) tm ps as bo pt) })
   | .exit id => k (.bool false, { x.2.mem with A := x.2.mem.A.take na, H := x.2.mem.H.set h (.loop .done (some (.exit id)) tm ps as bo pt) })
  else none
 | _ => none
def yldWK (cfg : Cfg) (wc : WCfg T) (I : WI T R) (h : Nat) (ws : List (W T)) (wm : WM T) (k : W T × WM T → Option R) : Option R :=
 match wm.H[h]? with
 | some (.loop .ready _ tm ps as bo pt) =>
  if ps.length = ws.length ∧ wm.lh ≤ h then
   execWK cfg wc I as (2 :: pt) { tm := setManyW tm ps ws, mem := inW wm, df := [], rd := true } fun x =>
    match x with
    | (.normal, st1) =>
     match st1.mem.H[h]? with
     | some (.loop .ready pend' tm' ps' as' bo' pt') =>
      if st1.mem.lh ≤ h then
       execWK cfg wc I bo (3 :: pt) { st1 with mem := { st1.mem with H := st1.mem.H.set h (.loop .busy pend' tm' ps' as' bo' pt') } } fun y => endRoundWK wm.A.length h y fun (w, wm') => k (w, outW wm wm')
      else none
     | _ => none
    | _ => none
  else none
 | _ => none
theorem endRoundWK_sound {na h : Nat} {x : Ex × WSt T} {k : W T × WM T → Option R} {r : R} (hk : endRoundWK na h x k = some r) :
  ∃ w wm', k (w, wm') = some r ∧ ∀ {bs α β vst b ver n}, bs.α.length = na → β[h]? = some (some (b, ver, n)) → SSim bs C α β x.2 vst →
   ∃ v m' α', endRoundV bs.m.A.length b (x.1, vst) = some (v, m') ∧ WSim bs C α' β wm' m' ∧ Rep C α' β w v := by
 unfold endRoundWK at hk
 split at hk
 ·rename_i s0 p0 tm ps as bo pt he
  split at hk
  ·rename_i hc
   obtain ⟨hlh, hA, hH⟩ := hc
   obtain ⟨e, st⟩ := x
   simp only at he hlh hA hH hk
   have fin : ∀ (bb : Bool) (s : LoopState) (pe : Option Code), (∀ {n l : Nat} {vst : St} {tm' : List V} {s1 : LoopState} {p1 : Option Code}, vst.mem.B[l]? = some (.loop s1 p1 tm' ps as bo) → vst.mem.lb ≤ l → endRoundV n l (e, vst) = some (.bool bb, truncA n (.bool bb) { vst.mem with B := vst.mem.B.set l (.loop s pe tm' ps as bo) })) →
     k (.bool bb, { st.mem with A := st.mem.A.take na, H := st.mem.H.set h (.loop s pe tm ps as bo pt) }) = some r →
     ∃ w wm', k (w, wm') = some r ∧ ∀ {bs α β vst b ver n}, bs.α.length = na → β[h]? = some (some (b, ver, n)) → SSim bs C α β st vst →
      ∃ v m' α', endRoundV bs.m.A.length b (e, vst) = some (v, m') ∧ WSim bs C α' β wm' m' ∧ Rep C α' β w v := by
    intro bb s pe hend hk
    refine ⟨_, _, hk, fun {bs α β vst b ver n} hna hb S => ?_⟩
    have hE := S.mem.H _ _ he
    simp only [EnOk] at hE
    obtain ⟨b', ver', n', tm', hb', hB, htm⟩ := hE
    rw [hb] at hb'
    injection hb' with hb'; injection hb' with hb'
    simp only [Prod.mk.injEq] at hb'
    obtain ⟨rfl, rfl, rfl⟩ := hb'
    have hlb := S.mem.lb _ _ _ _ _ he rfl hb hlh
    have hlow : lowL na tm = true := by
     have := List.all_eq_true.1 hH _ (List.mem_of_getElem? he)
     exact this
    have S1 := S.mem.setB (hi' := vst.mem.hi) he rfl hb (e' := .loop s pe tm ps as bo pt) (bb := .loop s pe tm' ps as bo) (by
     simp only [EnOk]
     exact ⟨_, ver, n, tm', hb, by simp [S.mem.ltB _ _ _ _ hb], htm⟩)
    have S2 := S1.dropA (n := na) (by simp only; rw [← S.mem.hpa, hna]; exact Nat.le_refl _) hA (by
     rw [List.all_eq_true]
     intro y hy
     rcases List.mem_or_eq_of_mem_set hy with hy | rfl
     ·exact List.all_eq_true.1 hH y hy
     ·exact hlow)
    have ht : α.take na = bs.α := by rw [← hna]; exact take_pre S.mem.pa
    refine ⟨_, _, α.take na, hend hB hlb, ?_, by simp only [Rep]⟩
    unfold truncA
    split
    ·rename_i hc
     refine S2.truncA (Nat.le_refl _) (fun i j hij => ?_) hc.2.2
     rw [ht] at hij
     exact S.mem.bα i j hij
    ·exact S2
   cases e with
   | normal => exact fin true .ready none (fun hB hlb => by simp only [endRoundV, hB]; rw [if_pos hlb]) hk
   | ret => exact fin false .done (some .ret) (fun hB hlb => by simp only [endRoundV, hB]; rw [if_pos hlb]) hk
   | exit id => exact fin false .done (some (.exit id)) (fun hB hlb => by simp only [endRoundV, hB]; rw [if_pos hlb]) hk
  ·cases hk
 ·cases hk
theorem callW_yld {l : Nat} {args : List V} {m : Mem} {pe : Option Code} {tm : List V} {ps : List Tmp} {as bo : Code} (h : m.B[l]? = some (.loop .ready pe tm ps as bo)) (hc : ps.length = args.length ∧ m.lb ≤ l)
  {st1 : St} (h1 : exec cfg (callW cfg) loopW as { tm := setMany tm ps args, mem := m, df := [], rd := true } = some (.normal, st1))
  {pe' : Option Code} {tm' : List V} {ps' : List Tmp} {as' bo' : Code} (h2 : st1.mem.B[l]? = some (.loop .ready pe' tm' ps' as' bo'))
  {x : Ex × St} (h3 : exec cfg (callW cfg) loopW bo { st1 with mem := { st1.mem with B := st1.mem.B.set l (.loop .busy pe' tm' ps' as' bo') } } = some x) {y : V × Mem} (h4 : endRoundV m.A.length l x = some y) :
  callW cfg (.yld l) args m = some y := by
 obtain ⟨n1, k1⟩ := exec_cont _ _ _ h1
 obtain ⟨n2, k2⟩ := exec_cont _ _ _ h3
 have e1 := execN_le (Nat.le_max_left n1 n2) _ _ _ k1
 have e2 := execN_le (Nat.le_max_right n1 n2) _ _ _ k2
 refine callW_of (n := max n1 n2 + 1) ?_
 rw [callN_succ]
 simp only [callF, h]
 rw [if_pos hc]
 simp only [execN] at e1 e2
 rw [e1]
 simp only [h2, e2, Option.bind_some]
 exact h4
theorem yldWK_sound (ok : CodOk wc.C) (io : IOk cfg wc.C I) {h : Nat} {ws : List (W T)} {wm : WM T} {k : W T × WM T → Option R} {r : R} (hk : yldWK cfg wc I h ws wm k = some r) :
  ∃ w wm', k (w, wm') = some r ∧ ∀ {bs α β m vs b ver n}, WSim bs wc.C α β wm m → β[h]? = some (some (b, ver, n)) → RepL wc.C α β ws vs → Goes wc.C wm wm' w bs α β (callW cfg (.yld b) vs m) := by
 unfold yldWK at hk
 split at hk
 ·rename_i p0 tm ps as bo pt he
  split at hk
  ·rename_i hc
   obtain ⟨x, h1, h2⟩ := execWK_sound ok io as _ hk
   split at h1
   ·rename_i st1
    split at h1
    ·rename_i pend' tm' ps' as' bo' pt' he'
     split at h1
     ·rename_i hlh'
      obtain ⟨y, h3, h4⟩ := execWK_sound ok io bo _ h1
      obtain ⟨w, wm', h5, h6⟩ := endRoundWK_sound (C := wc.C) h3
      refine ⟨w, _, h5, fun {bs α β m vs b ver n} S hb hr => ?_⟩
      have hE := S.H _ _ he
      simp only [EnOk] at hE
      obtain ⟨b1, ver1, n1, vtm, hb1, hB, htm⟩ := hE
      rw [hb] at hb1
      injection hb1 with hb1; injection hb1 with hb1
      simp only [Prod.mk.injEq] at hb1
      obtain ⟨rfl, rfl, rfl⟩ := hb1
      have hlb := S.lb _ _ _ _ _ he rfl hb hc.2
      have S0 : SSim ⟨m, α, β⟩ wc.C α β { tm := setManyW tm ps ws, mem := inW wm, df := [], rd := true } { tm := setMany vtm ps vs, mem := m, df := [], rd := true } := ⟨setManyW_rep htm hr, S.within, DfR.nil, rfl⟩
      obtain ⟨vst1, α1, β1, g1, g2, S1⟩ := h2 S0
      have hbp : β1[h]? = some (some (b, ver, n)) := get_pre S1.mem.pb hb
      have hE := S1.mem.H _ _ he'
      simp only [EnOk] at hE
      obtain ⟨b2, ver2, n2, vtm', hb2, hB2, htm'⟩ := hE
      rw [hbp] at hb2
      injection hb2 with hb2; injection hb2 with hb2
      simp only [Prod.mk.injEq] at hb2
      obtain ⟨rfl, rfl, rfl⟩ := hb2
      have S2 := S1.mem.setB (hi' := vst1.mem.hi) he' rfl hbp (e' := .loop .busy pend' tm' ps' as' bo' pt') (bb := .loop .busy pend' vtm' ps' as' bo') (by
       simp only [EnOk]
       exact ⟨_, ver, n, vtm', hbp, by simp [S1.mem.ltB _ _ _ _ hbp], htm'⟩)
      have S3 : SSim ⟨m, α, β⟩ wc.C α1 β1 { st1 with mem := { st1.mem with H := st1.mem.H.set h (.loop .busy pend' tm' ps' as' bo' pt') } } { vst1 with mem := { vst1.mem with B := vst1.mem.B.set b (.loop .busy pend' vtm' ps' as' bo') } } := ⟨S1.tm, S2, S1.df, S1.rd⟩
      obtain ⟨vst2, α2, β2, g3, g4, S4⟩ := h4 S3
      have hbp2 : β2[h]? = some (some (b, ver, n)) := get_pre S4.mem.pb hb
      obtain ⟨v, m', α3, g5, S5, hr5⟩ := h6 (bs := ⟨m, α, β⟩) S.lenA hbp2 S4
      refine ⟨v, m', α3, β2, callW_yld hB ⟨by rw [← hr.length]; exact hc.1, hlb⟩ g1 hB2 g3 g5, S5.pa, S5.pb, S.back S5, hr5⟩
     ·cases h1
    ·cases h1
   ·cases h1
  ·cases hk
 ·cases hk
end Go.Proofs.YtpdgbhjhodhkiaaGreatDoor.AI
namespace Go.Proofs.YtpdgbhjhodhkiaaGreatDoor.AI
open Go
variable {T : Nat → Type} {C : Cod T} {R : Type} {P : Program} {cfg : Cfg} {wc : WCfg T} {I : WI T R}
variable {bs : Base} {α α' : List Nat} {β β' : Bt} {wm wm' : WM T} {m m' : Mem}
def posOf : List Nat → Nat → Option Nat
 | [], _ => none
 | x :: l, h => if Nat.beq x h = true then some 0 else (posOf l h).map (· + 1)
theorem posOf_some : ∀ {l : List Nat} {h p : Nat}, posOf l h = some p → l[p]? = some h
 | [], h, p, k => by simp [posOf] at k
 | x :: l, h, p, k => by
  simp only [posOf] at k
  split at k
  ·rename_i e
   injection k with k
   subst k
   rw [Nat.beq_eq] at e
   simp [e]
  ·obtain ⟨q, h1, rfl⟩ := Option.map_eq_some_iff.1 k
   simpa using posOf_some h1
mutual
def renW (ih : List Nat) : W T → Option (W T)
 | .own k h => (posOf ih h).map fun p => .own k p
 | .view k h off len => (posOf ih h).map fun p => .view k p off len
 | .oelem k h i off => (posOf ih h).map fun p => .oelem k p i off
 | .map h => (posOf ih h).map fun p => .map p
 | .yld h => (posOf ih h).map fun p => .yld p
 | .fn f ws => (renWL ih ws).map fun l => .fn f l
 | .ifc t w => (renW ih w).map fun x => .ifc t x
 | .agg ws => (renWL ih ws).map fun l => .agg l
 | .tup ws => (renWL ih ws).map fun l => .tup l
 | w => some w
def renWL (ih : List Nat) : List (W T) → Option (List (W T))
 | [] => some []
 | w :: ws =>
  match renW ih w, renWL ih ws with
  | some x, some l => some (x :: l)
  | _, _ => none
end
def renU (ih : List Nat) (w : W T) : W T := (renW ih w).getD .undef
def βren (β : Bt) (ih : List Nat) : Bt := ih.map fun h => (β[h]?).getD none
theorem βren_get {ih : List Nat} {h p : Nat} {x : Option (Nat × Nat × Nat)} (hp : posOf ih h = some p) (hb : β[h]? = some x) : (βren β ih)[p]? = some x := by
 unfold βren
 rw [List.getElem?_map, posOf_some hp]
 simp [hb]
mutual
theorem renW_rep {ih : List Nat} : ∀ {w w' : W T} {v : V}, renW ih w = some w' → Rep C α β w v → Rep C α (βren β ih) w' v
 | .own k h, w', v, hw, hr => by
  simp only [renW] at hw
  obtain ⟨p, hp, rfl⟩ := Option.map_eq_some_iff.1 hw
  simp only [Rep] at hr ⊢
  rcases hr with ⟨h1, h2⟩ | ⟨b, ver, n, h1, h2⟩
  ·exact .inl ⟨βren_get hp h1, h2⟩
  ·exact .inr ⟨b, ver, n, βren_get hp h1, h2⟩
 | .view k h off len, w', v, hw, hr => by
  simp only [renW] at hw
  obtain ⟨p, hp, rfl⟩ := Option.map_eq_some_iff.1 hw
  simp only [Rep] at hr ⊢
  rcases hr with ⟨h1, h2⟩ | ⟨b, ver, n, h1, h2⟩
  ·exact .inl ⟨βren_get hp h1, h2⟩
  ·exact .inr ⟨b, ver, n, βren_get hp h1, h2⟩
 | .oelem k h i off, w', v, hw, hr => by
  simp only [renW] at hw
  obtain ⟨p, hp, rfl⟩ := Option.map_eq_some_iff.1 hw
  simp only [Rep] at hr ⊢
  obtain ⟨b, ver, n, h1, h2⟩ := hr
  exact ⟨b, ver, n, βren_get hp h1, h2⟩
 | .map h, w', v, hw, hr => by
  simp only [renW] at hw
  obtain ⟨p, hp, rfl⟩ := Option.map_eq_some_iff.1 hw
  simp only [Rep] at hr ⊢
  obtain ⟨b, ver, n, h1, h2⟩ := hr
  exact ⟨b, ver, n, βren_get hp h1, h2⟩
 | .yld h, w', v, hw, hr => by
  simp only [renW] at hw
  obtain ⟨p, hp, rfl⟩ := Option.map_eq_some_iff.1 hw
  simp only [Rep] at hr ⊢
  obtain ⟨b, ver, n, h1, h2⟩ := hr
  exact ⟨b, ver, n, βren_get hp h1, h2⟩
 | .fn f ws, w', v, hw, hr => by
  simp only [renW] at hw
  obtain ⟨l, hl, rfl⟩ := Option.map_eq_some_iff.1 hw
  simp only [Rep] at hr ⊢
  obtain ⟨vs, h1, h2⟩ := hr
  exact ⟨vs, h1, renWL_rep hl h2⟩
 | .ifc t w, w', v, hw, hr => by
  simp only [renW] at hw
  obtain ⟨l, hl, rfl⟩ := Option.map_eq_some_iff.1 hw
  simp only [Rep] at hr ⊢
  obtain ⟨u, h1, h2⟩ := hr
  exact ⟨u, h1, renW_rep hl h2⟩
 | .agg ws, w', v, hw, hr => by
  simp only [renW] at hw
  obtain ⟨l, hl, rfl⟩ := Option.map_eq_some_iff.1 hw
  simp only [Rep] at hr ⊢
  obtain ⟨vs, h1, h2⟩ := hr
  exact ⟨vs, h1, renWL_rep hl h2⟩
 | .tup ws, w', v, hw, hr => by
  simp only [renW] at hw
  obtain ⟨l, hl, rfl⟩ := Option.map_eq_some_iff.1 hw
  simp only [Rep] at hr ⊢
  obtain ⟨vs, h1, h2⟩ := hr
  exact ⟨vs, h1, renWL_rep hl h2⟩
 | .undef, w', v, hw, hr | .bool _, w', v, hw, hr | .int _ _, w', v, hw, hr | .str _, w', v, hw, hr | .nilp, w', v, hw, hr | .ptr _ _, w', v, hw, hr | .nilsl, w', v, hw, hr | .row _ _ _, w', v, hw, hr
 | .relem _ _ _, w', v, hw, hr | .nilm, w', v, hw, hr | .nilf, w', v, hw, hr | .nili, w', v, hw, hr => by
  simp only [renW, Option.some.injEq] at hw
  subst hw
  simpa only [Rep] using hr
theorem renWL_rep {ih : List Nat} : ∀ {ws ws' : List (W T)} {vs : List V}, renWL ih ws = some ws' → RepL C α β ws vs → RepL C α (βren β ih) ws' vs
 | [], ws', vs, hw, hr => by
  simp only [renWL, Option.some.injEq] at hw
  subst hw
  simpa only [RepL] using hr
 | w :: ws, ws', vs, hw, hr => by
  simp only [renWL] at hw
  split at hw
  ·rename_i x l hx hl
   injection hw with hw
   subst hw
   simp only [RepL] at hr
   obtain ⟨v, vs', rfl, h1, h2⟩ := hr
   exact RepL.cons (renW_rep hx h1) (renWL_rep hl h2)
  ·cases hw
end
theorem renU_rep {ih : List Nat} {w : W T} {v : V} (h : Rep C α β w v) : Rep C α (βren β ih) (renU ih w) v := by
 unfold renU
 cases hw : renW ih w with
 | none => simp only [Option.getD_none, Rep]
 | some x => exact renW_rep hw h
theorem renU_repL {ih : List Nat} {ws : List (W T)} {vs : List V} (h : RepL C α β ws vs) : RepL C α (βren β ih) (ws.map (renU ih)) vs := by
 induction ws generalizing vs with
 | nil => simpa only [List.map_nil, RepL] using h
 | cons w ws ihh =>
  simp only [RepL] at h
  obtain ⟨v, vs', rfl, h1, h2⟩ := h
  exact RepL.cons (renU_rep h1) (ihh h2)
def renE (ih : List Nat) : En T → En T
 | .loop s pend tm ps as bo pt => .loop s pend (tm.map (renU ih)) ps as bo pt
 | e => e
def nodupB : List Nat → Bool
 | [] => true
 | x :: l => !(posOf l x).isSome && nodupB l
theorem posOf_mem : ∀ {l : List Nat} {h p : Nat}, l[p]? = some h → (posOf l h).isSome = true
 | [], h, p, k => by simp at k
 | x :: l, h, p, k => by
  simp only [posOf]
  split
  ·rfl
  ·rename_i hne
   cases p with
   | zero => simp at k; subst k; simp at hne
   | succ p => simpa using posOf_mem (l := l) (by simpa using k)
theorem nodupB_inj : ∀ {l : List Nat} {p q x : Nat}, nodupB l = true → l[p]? = some x → l[q]? = some x → p = q
 | [], p, q, x, _, h, _ => by simp at h
 | y :: l, p, q, x, hn, h1, h2 => by
  simp only [nodupB, Bool.and_eq_true, Bool.not_eq_true'] at hn
  cases p with
  | zero =>
   cases q with
   | zero => rfl
   | succ q =>
    simp at h1 h2
    subst h1
    have := posOf_mem h2
    rw [hn.1] at this
    cases this
  | succ p =>
   cases q with
   | zero =>
    simp at h1 h2
    subst h2
    have := posOf_mem h1
    rw [hn.1] at this
    cases this
   | succ q =>
    simp at h1 h2
    rw [nodupB_inj hn.2 h1 h2]
def startsB (ih : List Nat) : Nat → Bool
 | 0 => true
 | n + 1 => startsB ih n && (match ih[n]? with | some x => Nat.beq x n | none => false)
theorem startsB_get {ih : List Nat} : ∀ {n i : Nat}, startsB ih n = true → i < n → ih[i]? = some i
 | 0, i, _, h => by omega
 | n + 1, i, h, hi => by
  simp only [startsB, Bool.and_eq_true] at h
  by_cases he : i = n
  ·subst he
   have h2 := h.2
   split at h2
   ·rename_i x hx
    rw [Nat.beq_eq] at h2
    rw [hx, h2]
   ·cases h2
  ·exact startsB_get h.1 (by omega)
def compact (ih : List Nat) (st : WSt T) : Option (WSt T) :=
 if (nodupB ih && startsB ih st.mem.ph && Nat.ble st.mem.lh st.mem.ph && ih.all fun h => Nat.blt h st.mem.H.length) = true then
  some { tm := st.tm.map (renU ih), mem := { st.mem with A := st.mem.A.map (List.map (renU ih)), H := ih.map fun h => renE ih (st.mem.H.getD h .dead) }, df := st.df.map fun (t, x, y) => (t, renU ih x, renU ih y), rd := st.rd }
 else none
theorem renE_live {ih : List Nat} {e : En T} : (renE ih e).live = e.live := by cases e <;> rfl
theorem compact_sound {ih : List Nat} {st st' : WSt T} (h : compact ih st = some st') {vst : St} (S : SSim bs C α β st vst) : SSim bs C α (βren β ih) st' vst := by
 unfold compact at h
 split at h
 ·rename_i hc
  simp only [Bool.and_eq_true] at hc
  obtain ⟨⟨⟨hnd, hst⟩, hlp⟩, hlt⟩ := hc
  injection h with h
  subst h
  have hlp : st.mem.lh ≤ st.mem.ph := by simpa using hlp
  have M := S.mem
  have inv : ∀ {h b ver n : Nat}, (βren β ih)[h]? = some (some (b, ver, n)) → ∃ h0, ih[h]? = some h0 ∧ β[h0]? = some (some (b, ver, n)) := by
   intro h b ver n hb
   unfold βren at hb
   rw [List.getElem?_map] at hb
   obtain ⟨h0, h1, h2⟩ := Option.map_eq_some_iff.1 hb
   refine ⟨h0, h1, ?_⟩
   cases hx : β[h0]? with
   | none => rw [hx] at h2; cases h2
   | some y => rw [hx] at h2; simp at h2; rw [h2]
  have ent : ∀ {h : Nat} {e : En T}, (ih.map fun h => renE ih (st.mem.H.getD h .dead))[h]? = some e → ∃ h0 e0, ih[h]? = some h0 ∧ st.mem.H[h0]? = some e0 ∧ e = renE ih e0 := by
   intro h e he
   rw [List.getElem?_map] at he
   obtain ⟨h0, h1, h2⟩ := Option.map_eq_some_iff.1 he
   have hl : h0 < st.mem.H.length := by
    have := List.all_eq_true.1 hlt h0 (List.mem_of_getElem? h1)
    simpa using this
   refine ⟨h0, st.mem.H[h0], h1, List.getElem?_eq_getElem hl, ?_⟩
   rw [← h2, List.getD_eq_getElem?_getD, List.getElem?_eq_getElem hl]
   rfl
  refine ⟨renU_repL S.tm, ?_, ?_, S.rd⟩
  ·exact { M with
    lenA := by simpa using M.lenA
    lenH := by simp [βren]
    A := fun i j ws h1 h2 => by
     simp only [List.getElem?_map] at h2
     obtain ⟨ws0, h3, rfl⟩ := Option.map_eq_some_iff.1 h2
     obtain ⟨vs, h4, h5⟩ := M.A i j ws0 h1 h3
     exact ⟨vs, h4, renU_repL h5⟩
    la := M.la
    H := fun h e he => by
     obtain ⟨h0, e0, h1, h2, rfl⟩ := ent he
     have k := M.H h0 e0 h2
     have get : ∀ {x}, β[h0]? = some x → (βren β ih)[h]? = some x := fun hb => by
      unfold βren
      rw [List.getElem?_map, h1]
      simp [hb]
     cases e0 with
     | dead => trivial
     | rows kk l =>
      simp only [EnOk, renE] at k ⊢
      rcases k with ⟨k1, k2⟩ | ⟨b, ver, cs, k1, k2, k3⟩
      ·exact .inl ⟨get k1, k2⟩
      ·exact .inr ⟨b, ver, cs, get k1, k2, k3⟩
     | map kk kv es =>
      simp only [EnOk, renE] at k ⊢
      obtain ⟨b, ver, n, es', k1, k2, k3⟩ := k
      exact ⟨b, ver, n, es', get k1, k2, k3⟩
     | loop s pend tm ps as bo pt =>
      simp only [EnOk, renE] at k ⊢
      obtain ⟨b, ver, n, tm', k1, k2, k3⟩ := k
      exact ⟨b, ver, n, tm', get k1, k2, renU_repL k3⟩
    injH := fun h1 h2 e1 e2 b v1 n1 v2 n2 g1 g2 l1 l2 b1 b2 => by
     obtain ⟨p1, x1, q1, r1, rfl⟩ := ent g1
     obtain ⟨p2, x2, q2, r2, rfl⟩ := ent g2
     obtain ⟨p1', q1', s1⟩ := inv b1
     obtain ⟨p2', q2', s2⟩ := inv b2
     rw [q1] at q1'; injection q1' with q1'; subst q1'
     rw [q2] at q2'; injection q2' with q2'; subst q2'
     have := M.injH _ _ _ _ _ _ _ _ _ r1 r2 (by rw [← renE_live]; exact l1) (by rw [← renE_live]; exact l2) s1 s2
     subst this
     exact nodupB_inj hnd q1 q2
    lb := fun h e b ver n g l hb hlh => by
     obtain ⟨p1, x1, q1, r1, rfl⟩ := ent g
     obtain ⟨p1', q1', s1⟩ := inv hb
     rw [q1] at q1'; injection q1' with q1'; subst q1'
     refine M.lb _ _ _ _ _ r1 (by rw [← renE_live]; exact l) s1 ?_
     by_cases hp : h < st.mem.ph
     ·have := startsB_get hst hp
      rw [q1] at this; injection this with this; subst this
      exact hlh
     ·by_cases hq : p1 < st.mem.ph
      ·have := startsB_get hst hq
       have := nodupB_inj hnd q1 this
       omega
      ·omega
    ltB := fun h b ver n hb => by
     obtain ⟨h0, _, h2⟩ := inv hb
     exact M.ltB _ _ _ _ h2
    pb := by
     have hp := M.hph
     have : (βren β ih).take bs.β.length = bs.β := by
      apply List.ext_getElem?
      intro i
      rw [List.getElem?_take]
      split
      ·rename_i hi
       have h1 := startsB_get hst (i := i) (by omega)
       unfold βren
       rw [List.getElem?_map, h1]
       have h2 : bs.β[i]? = some bs.β[i] := List.getElem?_eq_getElem hi
       have h3 := get_pre M.pb h2
       simp [h3, h2]
      ·rename_i hi
       rw [List.getElem?_eq_none (by omega)]
     rw [← this]
     exact List.take_prefix _ _
    nb := fun h b ver n hb => by
     obtain ⟨h0, _, h2⟩ := inv hb
     exact M.nb _ _ _ _ h2
    fb := M.fb
    lenB0 := M.lenB0
    lb0 := M.lb0
    blb := M.blb
    hpa := M.hpa
    hph := M.hph }
  ·have hd := S.df
   generalize st.df = l at hd
   generalize vst.df = l' at hd
   induction hd with
   | nil => exact DfR.nil
   | cons h1 h2 _ ihh => exact DfR.cons (renU_rep h1) (renU_rep h2) ihh
 ·cases h
mutual
def W.hs : W T → List Nat
 | .own _ h => [h]
 | .view _ h _ _ => [h]
 | .oelem _ h _ _ => [h]
 | .map h => [h]
 | .yld h => [h]
 | .fn _ ws => hsL ws
 | .ifc _ w => W.hs w
 | .agg ws => hsL ws
 | .tup ws => hsL ws
 | _ => []
def hsL : List (W T) → List Nat
 | [] => []
 | w :: ws => W.hs w ++ hsL ws
end
def En.isLoop : En T → Bool
 | .loop _ _ _ _ _ _ _ => true
 | _ => false
def addH (H : List (En T)) (ih : List Nat) (h : Nat) : List Nat :=
 match H[h]? with
 | some .dead => ih
 | some _ => if (posOf ih h).isSome = true then ih else ih ++ [h]
 | none => ih
def addHs (H : List (En T)) : List Nat → List Nat → List Nat
 | ih, [] => ih
 | ih, h :: hs => addHs H (addH H ih h) hs
def loopHs (H : List (En T)) : List Nat := (List.range H.length).filter fun h => match H[h]? with | some e => e.isLoop | none => false
def loopTms (H : List (En T)) : List Nat := H.flatMap fun | .loop _ _ tm _ _ _ _ => hsL tm | _ => []
def dfHs (df : List (TypeId × W T × W T)) : List Nat := df.flatMap fun (_, x, y) => W.hs x ++ W.hs y
def roots (st : WSt T) : List Nat :=
 addHs st.mem.H (List.range st.mem.ph) (loopHs st.mem.H ++ loopTms st.mem.H ++ hsL st.tm ++ st.mem.A.flatMap hsL ++ dfHs st.df)
def resetW : List (W T) → List (W T) → List (W T)
 | e :: es, c :: cs => (match e with | .undef => .undef | .tup [] => .undef | _ => c) :: resetW es cs
 | _, cs => cs
theorem resetW_rep : ∀ {es cs : List (W T)} {ves vcs : List V}, RepL C α β es ves → RepL C α' β' cs vcs → RepL C α' β' (resetW es cs) (resetTm ves vcs)
 | [], cs, ves, vcs, he, hc => by
  simp only [RepL] at he; subst he
  simp only [resetW, resetTm]; exact hc
 | e :: es, [], ves, vcs, he, hc => by
  simp only [RepL] at hc; subst hc
  simp only [resetW]
  unfold resetTm
  split
  ·rename_i heq; cases heq
  ·exact RepL.nil
 | e :: es, c :: cs, ves, vcs, he, hc => by
  simp only [RepL] at he hc
  obtain ⟨v, ves', rfl, h1, h2⟩ := he
  obtain ⟨u, vcs', rfl, h3, h4⟩ := hc
  simp only [resetW, resetTm]
  refine RepL.cons ?_ (resetW_rep h2 h4)
  split
  ·simp only [Rep]
  ·simp only [Rep]
  ·rename_i hn1 hn2
   split
   ·rename_i hv
    exfalso
    cases e <;> simp only [Rep] at h1
    all_goals first
     | exact hn1 rfl
     | (cases h1; done)
     | (obtain ⟨_, h1, _⟩ := h1; cases h1; done)
     | (obtain ⟨_, _, h1⟩ := h1; cases h1; done)
     | (obtain ⟨_, _, h1, _⟩ := h1; cases h1; done)
     | (obtain ⟨_, _, _, _, h1⟩ := h1; cases h1; done)
     | (rcases h1 with ⟨_, h1⟩ | ⟨_, _, _, _, h1⟩ <;> cases h1; done)
     | (rcases h1 with ⟨_, _, _, _, h1⟩ | ⟨_, _, _, _, h1⟩ <;> cases h1; done)
   ·rename_i hv
    exfalso
    cases e <;> simp only [Rep] at h1
    all_goals first
     | exact hn1 rfl
     | (cases h1; done)
     | (obtain ⟨_, h1, hx⟩ := h1; cases h1; rename_i ws; cases ws with | nil => exact hn2 rfl | cons a b => simp [RepL] at hx)
     | (obtain ⟨_, h1, _⟩ := h1; cases h1; done)
     | (obtain ⟨_, _, h1⟩ := h1; cases h1; done)
     | (obtain ⟨_, _, h1, _⟩ := h1; cases h1; done)
     | (obtain ⟨_, _, _, _, h1⟩ := h1; cases h1; done)
     | (rcases h1 with ⟨_, h1⟩ | ⟨_, _, _, _, h1⟩ <;> cases h1; done)
     | (rcases h1 with ⟨_, _, _, _, h1⟩ | ⟨_, _, _, _, h1⟩ <;> cases h1; done)
   ·exact h3
def dfLow (n : Nat) : List (TypeId × W T × W T) → Bool
 | [] => true
 | (_, x, y) :: l => W.low n x && W.low n y && dfLow n l
theorem DfR.low {n : Nat} {l : List (TypeId × W T × W T)} {l' : List (TypeId × V × V)} (h : DfR C α β l l') (hl : dfLow n l = true) : DfR C (α.take n) β l l' := by
 induction h with
 | nil => exact DfR.nil
 | cons h1 h2 _ ih =>
  simp only [dfLow, Bool.and_eq_true] at hl
  exact DfR.cons (h1.low hl.1.1) (h2.low hl.1.2) (ih hl.2)
def gcW (tm : List (W T)) (na : Nat) (st : WSt T) : Option (WSt T) :=
 if (lowL na (resetW tm st.tm) && (st.mem.A.take na).all (lowL na) && st.mem.H.all (En.low na) && dfLow na st.df && Nat.ble st.mem.pa na) = true then
  some { st with tm := resetW tm st.tm, mem := { st.mem with A := st.mem.A.take na } }
 else none
theorem gcW_sound {st st1 st2 : WSt T} (h : gcW st.tm st.mem.A.length st1 = some st2) {vst vst1 : St} (S : SSim bs C α β st vst) (S1 : SSim bs C α' β' st1 vst1) (ha : α <+: α') : SSim bs C α β' st2 (gcSt vst vst1) := by
 unfold gcW at h
 split at h
 ·rename_i hc
  simp only [Bool.and_eq_true] at hc
  obtain ⟨⟨⟨⟨h1, h2⟩, h3⟩, h4⟩, h5⟩ := hc
  have h5 : st1.mem.pa ≤ st.mem.A.length := by simpa using h5
  injection h with h
  subst h
  have ht : α'.take st.mem.A.length = α := by rw [← S.mem.lenA]; exact take_pre ha
  have D := S1.mem.dropA h5 h2 h3
  rw [ht] at D
  have hr := (resetW_rep S.tm S1.tm).low h1
  rw [ht] at hr
  have hd := S1.df.low h4
  rw [ht] at hd
  refine ⟨hr, ?_, hd, S1.rd⟩
  show WSim bs C α β' _ (gcSt vst vst1).mem
  unfold gcSt
  simp only
  split
  ·rename_i hcond
   have hle : vst.mem.A.length ≤ vst1.mem.A.length ∨ vst1.mem.A.length < vst.mem.A.length := by omega
   by_cases hle : vst.mem.A.length ≤ vst1.mem.A.length
   ·exact D.truncA S.mem.lenA0 (fun i j hij => S.mem.ltA hij) hle
   ·have e : vst1.mem.A.take vst.mem.A.length = vst1.mem.A := List.take_of_length_le (by omega)
    rw [e]
    exact D
  ·exact D
 ·cases h
theorem set_undef_rep {ws : List (W T)} {vs : List V} (h : RepL C α β ws vs) (t : Nat) : RepL C α β (ws.set t .undef) vs := by
 induction ws generalizing vs t with
 | nil => simpa using h
 | cons w ws ih =>
  simp only [RepL] at h
  obtain ⟨v, vs', rfl, h1, h2⟩ := h
  cases t with
  | zero => exact RepL.cons (by simp only [Rep]) h2
  | succ t => exact RepL.cons h1 (ih h2 t)
def killT : List Nat → List (W T) → List (W T)
 | [], tm => tm
 | t :: l, tm => killT l (tm.set t .undef)
theorem killT_rep : ∀ {l : List Nat} {ws : List (W T)} {vs : List V}, RepL C α β ws vs → RepL C α β (killT l ws) vs
 | [], ws, vs, h => h
 | t :: l, ws, vs, h => killT_rep (l := l) (set_undef_rep h t)
theorem WSim.reA (S : WSim bs C α β wm m) {i : Nat} {ws ws' : List (W T)} (h : wm.A[i]? = some ws) (hr : ∀ vs, RepL C α β ws vs → RepL C α β ws' vs) : WSim bs C α β { wm with A := wm.A.set i ws' } m := by
 have hi : i < α.length := by rw [S.lenA]; exact (List.getElem?_eq_some_iff.1 h).1
 obtain ⟨vs, h1, h2⟩ := S.A i _ ws (List.getElem?_eq_getElem hi) h
 have := S.setA (List.getElem?_eq_getElem hi) (hr vs h2) m.hi
 rw [set_self h1] at this
 exact this
def matT : List (Nat × Nat) → WSt T → Option (WSt T)
 | [], st => some st
 | (t, k) :: l, st =>
  match st.tm[t]? with
  | some .nilsl => matT l { st with tm := st.tm.set t (.own k st.mem.H.length), mem := { st.mem with H := st.mem.H ++ [.rows k []] } }
  | some (.own _ _) => matT l st
  | _ => none
theorem matT_sound : ∀ {l : List (Nat × Nat)} {st st' : WSt T}, matT l st = some st' → ∀ {bs α β vst}, SSim bs C α β st vst → ∃ β', SSim bs C α β' st' vst
 | [], st, st', h, bs, α, β, vst, S => by
  simp only [matT, Option.some.injEq] at h
  subst h
  exact ⟨β, S⟩
 | (t, k) :: l, st, st', h, bs, α, β, vst, S => by
  simp only [matT] at h
  split at h
  ·rename_i ht
   refine matT_sound h (β := β ++ [none]) ⟨?_, S.mem.pushN (by simp only [EnOk]; exact .inl ⟨by simp, by first | rfl | trivial⟩), S.df.ext (List.prefix_refl _) (pre_app _ _), S.rd⟩
   obtain ⟨v, h1, h2⟩ := S.tm.get ht
   have := (S.tm.ext (List.prefix_refl α) (pre_app β [none])).set t (w := .own k st.mem.H.length) (v := v) (by
    simp only [Rep] at h2 ⊢
    exact .inl ⟨by rw [← S.mem.lenH]; simp, h2⟩)
   rw [set_self h1] at this
   exact this
  ·exact matT_sound h S
  ·cases h
def matA : List (Nat × Nat × Nat) → WSt T → Option (WSt T)
 | [], st => some st
 | (i, j, k) :: l, st =>
  match st.mem.A[i]? with
  | some ws =>
   match ws[j]? with
   | some .nilsl => matA l { st with mem := { st.mem with A := st.mem.A.set i (ws.set j (.own k st.mem.H.length)), H := st.mem.H ++ [.rows k []] } }
   | some (.own _ _) => matA l st
   | _ => none
  | none => none
theorem matA_sound : ∀ {l : List (Nat × Nat × Nat)} {st st' : WSt T}, matA l st = some st' → ∀ {bs α β vst}, SSim bs C α β st vst → ∃ β', SSim bs C α β' st' vst
 | [], st, st', h, bs, α, β, vst, S => by
  simp only [matA, Option.some.injEq] at h
  subst h
  exact ⟨β, S⟩
 | (i, j, k) :: l, st, st', h, bs, α, β, vst, S => by
  simp only [matA] at h
  split at h
  ·rename_i ws hws
   split at h
   ·rename_i hj
    have S1 := S.mem.pushN (e := .rows k []) (by simp only [EnOk]; exact .inl ⟨by simp, by first | rfl | trivial⟩)
    have S2 := S1.reA (i := i) (ws := ws) (ws' := ws.set j (.own k st.mem.H.length)) hws (fun vs hr => by
     obtain ⟨v, h1, h2⟩ := hr.get hj
     have := hr.set j (w := .own k st.mem.H.length) (v := v) (by
      simp only [Rep] at h2 ⊢
      exact .inl ⟨by rw [← S.mem.lenH]; simp, h2⟩)
     rw [set_self h1] at this
     exact this)
    exact matA_sound h (β := β ++ [none]) ⟨S.tm.ext (List.prefix_refl _) (pre_app _ _), S2, S.df.ext (List.prefix_refl _) (pre_app _ _), S.rd⟩
   ·exact matA_sound h S
   ·cases h
  ·cases h
structure Prep where
 kill : List Nat
 mt : List (Nat × Nat)
 ma : List (Nat × Nat × Nat)
def prepW (q : Prep) (st : WSt T) : Option (WSt T) :=
 (matT q.mt { st with tm := killT q.kill st.tm }).bind fun st1 => (matA q.ma st1).bind fun st2 => compact (roots st2) st2
theorem prepW_sound {q : Prep} {st st' : WSt T} (h : prepW q st = some st') {bs α β vst} (S : SSim bs C α β st vst) : ∃ β', SSim bs C α β' st' vst := by
 unfold prepW at h
 obtain ⟨st1, h1, h⟩ := Option.bind_eq_some_iff.1 h
 obtain ⟨st2, h2, h3⟩ := Option.bind_eq_some_iff.1 h
 obtain ⟨β1, S1⟩ := matT_sound h1 (β := β) (vst := vst) (bs := bs) (α := α) ⟨killT_rep S.tm, S.mem, S.df, S.rd⟩
 obtain ⟨β2, S2⟩ := matA_sound h2 S1
 exact ⟨_, compact_sound h3 S2⟩
mutual
def W.sk : W T → List Nat
 | .undef => [0]
 | .bool _ => [1]
 | .int _ _ => [2]
 | .str _ => [3]
 | .nilp => [4]
 | .ptr i o => [5, i, o]
 | .nilsl => [6]
 | .row k _ f => [7, k, if f then 1 else 0]
 | .relem k _ o => [8, k, o]
 | .own k h => [9, k, h]
 | .view k h _ _ => [10, k, h]
 | .oelem k h _ o => [11, k, h, o]
 | .nilm => [12]
 | .map h => [13, h]
 | .nilf => [14]
 | .fn f ws => 15 :: f :: skL ws
 | .yld h => [16, h]
 | .nili => [17]
 | .ifc t w => 18 :: t :: W.sk w
 | .agg ws => 19 :: skL ws
 | .tup ws => 20 :: skL ws
def skL : List (W T) → List Nat
 | [] => [99]
 | w :: ws => W.sk w ++ skL ws
end
def En.sk : En T → List Nat
 | .dead => [0]
 | .rows k _ => [1, k]
 | .map a b _ => [2, a, b]
 | .loop _ _ tm _ _ _ _ => 3 :: skL tm
def skN (st : WSt T) : Nat := (skL st.tm ++ st.mem.A.flatMap skL ++ st.mem.H.flatMap En.sk ++ [st.mem.la, st.mem.lh, st.mem.pa, st.mem.ph]).foldl (fun a x => (a * 1000003 + x + 1) % 2305843009213693951) 7
def skN0 (kill : List Nat) (st : WSt T) : Nat :=
 match prepW ⟨kill, [], []⟩ st with
 | some s => skN s
 | none => 0
def RoundSaid (cfg : Cfg) (C : Cod T) (c : Code) (st : WSt T) (x : Ex × WSt T) : Prop :=
 ∀ {bs α β vst}, SSim bs C α β st vst → ∃ vx β', exec cfg (callW cfg) loopW c vst = some (x.1, vx) ∧ SSim bs C α β' x.2 (gcSt vst vx)
def roundWK (cfg : Cfg) (wc : WCfg T) (I : WI T R) (c : Code) (p : List Nat) (q : Prep) (st : WSt T) (k : Ex × WSt T → Option R) : Option R :=
 execWK cfg wc I c (9 :: p) st fun x => opK (gcW st.tm st.mem.A.length x.2) fun st2 =>
  match x.1 with
  | .normal => opK (prepW q st2) fun st3 => k (.normal, st3)
  | e => opK (prepW ⟨[], [], []⟩ st2) fun st3 => k (e, st3)
theorem roundWK_sound (ok : CodOk wc.C) (io : IOk cfg wc.C I) {c : Code} {p : List Nat} {q : Prep} {st : WSt T} {k : Ex × WSt T → Option R} {r : R} (h : roundWK cfg wc I c p q st k = some r) : ∃ x, k x = some r ∧ RoundSaid cfg wc.C c st x := by
 unfold roundWK at h
 obtain ⟨⟨e, st1⟩, h1, h2⟩ := execWK_sound ok io c _ h
 obtain ⟨st2, h3, h4⟩ := opK_some h1
 have fin : ∀ {q st3}, prepW q st2 = some st3 → RoundSaid cfg wc.C c st (e, st3) := by
  intro q st3 h5 bs α β vst S
  obtain ⟨vx, α1, β1, h6, h7, S1⟩ := h2 S
  obtain ⟨β2, S2⟩ := prepW_sound h5 (gcW_sound h3 S S1 h7)
  exact ⟨vx, β2, h6, S2⟩
 cases e with
 | normal =>
  obtain ⟨st3, h5, h6⟩ := opK_some h4
  exact ⟨_, h6, fin h5⟩
 | ret =>
  obtain ⟨st3, h5, h6⟩ := opK_some h4
  exact ⟨_, h6, fin h5⟩
 | exit id =>
  obtain ⟨st3, h5, h6⟩ := opK_some h4
  exact ⟨_, h6, fin h5⟩
theorem loop_more {c : Code} {st st2 : WSt T} {x : Ex × WSt T} (h : RoundSaid cfg C c st (.normal, st2)) (h' : LoopSaid cfg C (.loop c) st2 x) : LoopSaid cfg C (.loop c) st x := by
 intro bs α β vst S
 obtain ⟨vx, β1, h1, S1⟩ := h S
 obtain ⟨vy, α2, β2, h2, h3, S2⟩ := h' S1
 refine ⟨vy, α2, β2, ?_, h3, S2⟩
 simp only [exec] at h2 ⊢
 rw [loopW_eq, h1]
 exact h2
theorem loop_end {c : Code} {st : WSt T} {x : Ex × WSt T} (h : RoundSaid cfg C c st x) (hn : x.1 ≠ .normal) : LoopSaid cfg C (.loop c) st x := by
 intro bs α β vst S
 obtain ⟨vx, β1, h1, S1⟩ := h S
 refine ⟨_, α, β1, ?_, List.prefix_refl _, S1⟩
 simp only [exec]
 rw [loopW_eq, h1]
 obtain ⟨e, st2⟩ := x
 cases e with
 | normal => exact absurd rfl hn
 | ret => rfl
 | exit id => rfl
theorem loop_prep {c : Code} {q : Prep} {st st1 : WSt T} {x : Ex × WSt T} (h : prepW q st = some st1) (h' : LoopSaid cfg C c st1 x) : LoopSaid cfg C c st x := by
 intro bs α β vst S
 obtain ⟨β1, S1⟩ := prepW_sound h S
 exact h' S1
end Go.Proofs.YtpdgbhjhodhkiaaGreatDoor.AI
namespace Go.Proofs.YtpdgbhjhodhkiaaGreatDoor.AI
open Go
variable {T : Nat → Type} {C : Cod T} {R : Type} {P : Program} {cfg : Cfg} {wc : WCfg T} {I : WI T R}
def W.toI : W T → Int | .int _ n => n | _ => 0
def W.toS : W T → List UInt8 | .str s => s | _ => []
def W.toR (k : Nat) : W T → List (T k) | .row k' l _ => if h : k' = k then h ▸ l else [] | _ => []
def W.nth : W T → Nat → W T
 | .agg ws, i => ws.getD i .undef
 | .tup ws, i => ws.getD i .undef
 | .fn _ ws, i => ws.getD i .undef
 | .ifc _ w, _ => w
 | _, _ => .undef
def En.toR (k : Nat) : En T → List (T k) | .rows k' l => if h : k' = k then h ▸ l else [] | _ => []
def En.toM (kk kv : Nat) : En T → List (T kk × T kv) | .map a b l => if h : a = kk then (if h' : b = kv then h ▸ h' ▸ l else []) else [] | _ => []
def sumK {X Y : Type} (s : X ⊕ Y) (f : X → Option R) (g : Y → Option R) : Option R :=
 match s with
 | .inl x => f x
 | .inr y => g y
open Classical in
noncomputable def chk2 (c c' : Code) (st st' : WSt T) : Option Unit := if c = c' ∧ st = st' then some () else none
noncomputable def chk (c : Code) (st : WSt T) : Option Unit := chk2 c c st st
theorem chk_eq (c : Code) (st : WSt T) : chk c st = some () := by unfold chk chk2; rw [if_pos ⟨rfl, rfl⟩]
theorem chk2_some {c c' : Code} {st st' : WSt T} {u : Unit} (h : chk2 c c' st st' = some u) : c = c' ∧ st = st' := by
 unfold chk2 at h
 split at h
 ·assumption
 ·cases h
section
variable {R' X Y : Type}
theorem opK_cnd {b : Bool} {x y : Option R} {K : R → Option R'} : opK (cnd b x y) K = cnd b (opK x K) (opK y K) := by cases b <;> rfl
theorem opK_opK {o : Option X} {f : X → Option R} {K : R → Option R'} : opK (opK o f) K = opK o fun x => opK (f x) K := by cases o <;> rfl
theorem opK_sumK {s : X ⊕ Y} {f : X → Option R} {g : Y → Option R} {K : R → Option R'} : opK (sumK s f g) K = sumK s (fun x => opK (f x) K) (fun y => opK (g y) K) := by cases s <;> rfl
theorem opK_none {K : R → Option R'} : opK none K = none := rfl
theorem opK_one {x : R} {K : R → Option R'} : opK (some x) K = K x := rfl
end
def stepE {X O : Type} (E : O → Ex × WSt T) (S : X → WSt T) : O ⊕ X → Ex × WSt T
 | .inl o => E o
 | .inr v => (.normal, S v)
theorem loop_gen {X O : Type} {c : Code} (S : X → WSt T) (E : O → Ex × WSt T) (hE : ∀ o, (E o).1 ≠ .normal) (R1 : X → Option (O ⊕ X)) (L : Nat → X → Option O)
  (hR : ∀ v x, R1 v = some x → RoundSaid cfg C c (S v) (stepE E S x))
  (h0 : ∀ v, L 0 v = none) (hL : ∀ m v, L (m + 1) v = opK (R1 v) fun x => sumK x some (L m)) :
  ∀ m v o, L m v = some o → LoopSaid cfg C (.loop c) (S v) (E o)
 | 0, v, o, h => by rw [h0] at h; cases h
 | m + 1, v, o, h => by
  rw [hL] at h
  obtain ⟨x, h1, h2⟩ := opK_some h
  cases x with
  | inl o' =>
   injection h2 with h2
   subst h2
   have h3 : RoundSaid cfg C c (S v) (E o') := hR v _ h1
   exact loop_end h3 (hE _)
  | inr v' =>
   have h3 : RoundSaid cfg C c (S v) (.normal, S v') := hR v _ h1
   exact loop_more h3 (loop_gen S E hE R1 L hR h0 hL m v' o h2)
theorem hand_sound {O : Type} {c c0 : Code} {q : Prep} {st : WSt T} {k : Ex × WSt T → Option R} {r : R} {s : WSt T → WSt T} {L : WSt T → Option O} {E : WSt T → O → Ex × WSt T}
  (h : (opK (prepW q st) fun st' => opK (chk2 c c0 st' (s st')) fun _ => opK (L st') fun o => k (E st' o)) = some r)
  (hs : ∀ st' o, L st' = some o → LoopSaid cfg C (.loop c0) (s st') (E st' o)) : ∃ x, k x = some r ∧ LoopSaid cfg C (.loop c) st x := by
 obtain ⟨st', h1, g1⟩ := opK_some h
 obtain ⟨u, h2, g2⟩ := opK_some g1
 obtain ⟨o, h3, g3⟩ := opK_some g2
 obtain ⟨e, h4⟩ := chk2_some h2
 subst e
 have h5 : LoopSaid cfg C (.loop c) (s st') (E st' o) := hs st' o h3
 rw [← h4] at h5
 exact ⟨_, g3, loop_prep h1 h5⟩
def PurSaid (cfg : Cfg) (C : Cod T) (f : FuncId) (ws : List (W T)) (w : W T) : Prop := ∀ {vs}, RepL C [] [] ws vs → ∃ v, pres cfg f vs = some v ∧ Rep C [] [] w v
def wm0 : WM T := ⟨[], [], 0, 0, 0, 0⟩
theorem sim0 : WSim ⟨Mem.empty, [], []⟩ C [] [] (wm0 : WM T) Mem.empty := by
 constructor <;> first | rfl | (intros; simp [wm0] at *; done) | exact Nat.le_refl _ | exact List.prefix_refl _
theorem pur_of (ok : CodOk wc.C) (io : IOk cfg wc.C I) {f : FuncId} {ws : List (W T)} {k : W T → Option R} {r : R} (h : (bodyWK cfg wc I f ws wm0 fun x => sealK x.2 x.1 k) = some r) :
  ∃ w, k w = some r ∧ PurSaid cfg wc.C f ws w := by
 obtain ⟨w, wm', h1, h2⟩ := bodyWK_sound ok io h
 obtain ⟨w', h3, h4, h5⟩ := sealK_sound ok _ h1
 refine ⟨w', h3, fun {vs} hr => ?_⟩
 obtain ⟨v, m', α', β', h6, _, _, S, hr'⟩ := h2 sim0 hr
 obtain ⟨v', h7, h8⟩ := h5 S hr'
 refine ⟨v', ?_, h8⟩
 unfold pres
 rw [h6, Option.bind_some]
 have : m'.lb = 0 := S.lb0
 rw [this] at h7
 exact h7
def FrzSaid (cfg : Cfg) (C : Cod T) (f : FuncId) (ws : List (W T)) (w : W T) : Prop := ∀ {vs} (m : Mem), RepL C [] [] ws vs → ∃ v, fres cfg f vs m = some v ∧ Rep C [] [] w v
theorem FrzSaid.out {f : FuncId} {ws : List (W T)} {w w' : W T} (h : FrzSaid cfg C f ws w) (hw : ∀ {v}, Rep C [] [] w v → Rep C [] [] w' v) : FrzSaid cfg C f ws w' := fun m hr => by
 obtain ⟨v, h1, h2⟩ := h m hr
 exact ⟨v, h1, hw h2⟩
theorem FrzSaid.args {f : FuncId} {ws ws' : List (W T)} {w : W T} (h : FrzSaid cfg C f ws w) (hw : ∀ {vs}, RepL C [] [] ws' vs → RepL C [] [] ws vs) : FrzSaid cfg C f ws' w := fun m hr => h m (hw hr)
theorem inV_out (ok : CodOk C) {k : Nat} {w : W T} {x : T k} (h : inV C k w = some x) {α β α' β' v} (hr : Rep C α β w v) : Rep C α' β' (outV C k x) v := outV_rep ok (inV_rep ok h hr)
theorem PurSaid.out {f : FuncId} {ws : List (W T)} {w w' : W T} (h : PurSaid cfg C f ws w) (hw : ∀ {v}, Rep C [] [] w v → Rep C [] [] w' v) : PurSaid cfg C f ws w' := fun hr => by
 obtain ⟨v, h1, h2⟩ := h hr
 exact ⟨v, h1, hw h2⟩
theorem PurSaid.args {f : FuncId} {ws ws' : List (W T)} {w : W T} (h : PurSaid cfg C f ws w) (hw : ∀ {vs}, RepL C [] [] ws' vs → RepL C [] [] ws vs) : PurSaid cfg C f ws' w := fun hr => h (hw hr)
theorem repL_out (ok : CodOk C) {k : Nat} {w : W T} {x : T k} (h : inV C k w = some x) {ws ws' : List (W T)} (hs : ∀ {vs}, RepL C [] [] ws vs → RepL C [] [] ws' vs) : ∀ {vs}, RepL C [] [] (w :: ws) vs → RepL C [] [] (outV C k x :: ws') vs := by
 intro vs hr
 simp only [RepL] at hr
 obtain ⟨v, vs', rfl, h1, h2⟩ := hr
 exact RepL.cons (inV_out ok h h1) (hs h2)
theorem repL_same {w : W T} {ws ws' : List (W T)} (hs : ∀ {vs}, RepL C [] [] ws vs → RepL C [] [] ws' vs) : ∀ {vs}, RepL C [] [] (w :: ws) vs → RepL C [] [] (w :: ws') vs := by
 intro vs hr
 simp only [RepL] at hr
 obtain ⟨v, vs', rfl, h1, h2⟩ := hr
 exact RepL.cons h1 (hs h2)
theorem bif_or {R' : Type} {b : Bool} {x y : Option R'} {r : R'} (h : (bif b then x else y) = some r) : (b = true ∧ x = some r) ∨ y = some r := by
 cases b
 ·exact .inr h
 ·exact .inl ⟨rfl, h⟩
def tup2K (C : Cod T) (c0 c1 : Nat) (w : W T) (K : T c0 → T c1 → Option R) : Option R :=
 match w with
 | .tup [w0, w1] => opK (inV C c0 w0) fun y0 => opK (inV C c1 w1) fun y1 => K y0 y1
 | _ => none
theorem in1_out (ok : CodOk C) {k : Nat} {w : W T} {y : T k} (h : opK (inV C k w) some = some y) {v} (hr : Rep C [] [] w v) : Rep C [] [] (outV C k y) v := by
 obtain ⟨x, h1, h2⟩ := opK_some h
 injection h2 with h2
 subst h2
 exact inV_out ok h1 hr
theorem in2_out (ok : CodOk C) {c0 c1 : Nat} {w : W T} {y : T c0 × T c1} (h : (tup2K C c0 c1 w fun y0 y1 => some (y0, y1)) = some y) {v} (hr : Rep C [] [] w v) : Rep C [] [] (.tup [outV C c0 y.1, outV C c1 y.2]) v := by
 unfold tup2K at h
 split at h
 ·obtain ⟨x, h1, h⟩ := opK_some h
  obtain ⟨x', h1', h⟩ := opK_some h
  injection h with h
  subst h
  simp only [Rep] at hr ⊢
  obtain ⟨vs, rfl, hr⟩ := hr
  exact ⟨vs, rfl, repL_out ok h1 (repL_out ok h1' fun h => h) hr⟩
 ·cases h
def pnum : List Nat → Nat
 | [] => 0
 | x :: l => pnum l * 16 + x + 1
def inlN (cfg : Cfg) (wc : WCfg T) : Nat → WI T R → WI T R
 | 0, I => I
 | d + 1, I => { I with call := fun f ws wm k => if I.heap f then I.call f ws wm k else bodyWK cfg wc (inlN cfg wc d I) f ws wm k, yld := fun h ws wm k => yldWK cfg wc (inlN cfg wc d I) h ws wm k }
theorem inlN_ok (ok : CodOk wc.C) (io : IOk cfg wc.C I) : ∀ d, IOk cfg wc.C (inlN cfg wc d I)
 | 0 => io
 | d + 1 => { io with
   call := fun h => by
    simp only [inlN] at h
    split at h
    ·exact io.call h
    ·exact bodyWK_sound ok (inlN_ok ok io d) h
   yld := fun h => yldWK_sound ok (inlN_ok ok io d) h }
def codeAt (c : Code) : List Nat → Option Code
 | [] => some c
 | i :: p =>
  match codeAt c p, i with
  | some (.seq a _), 0 => some a
  | some (.seq _ b), 1 => some b
  | some (.cond _ a _), 0 => some a
  | some (.cond _ _ b), 1 => some b
  | some (.block _ a), 0 => some a
  | some (.rangeFunc _ _ a _), 2 => some a
  | some (.rangeFunc _ _ _ b), 3 => some b
  | some (.loop a), 9 => some a
  | _, _ => none
end Go.Proofs.YtpdgbhjhodhkiaaGreatDoor.AI
namespace Go.Proofs.YtpdgbhjhodhkiaaGreatDoor.AI
open Go
variable {T : Nat → Type} {C : Cod T} {R : Type} {P : Program} {cfg : Cfg} {wc : WCfg T} {I : WI T R}
variable {bs : Base} {α α' : List Nat} {β β' : Bt} {wm wm' : WM T} {m m' : Mem}
mutual
def renF (fa fh : Nat → Option Nat) : W T → Option (W T)
 | .ptr i off => (fa i).map fun p => .ptr p off
 | .own k h => (fh h).map fun p => .own k p
 | .view k h off len => (fh h).map fun p => .view k p off len
 | .oelem k h i off => (fh h).map fun p => .oelem k p i off
 | .map h => (fh h).map fun p => .map p
 | .yld h => (fh h).map fun p => .yld p
 | .fn f ws => (renFL fa fh ws).map fun l => .fn f l
 | .ifc t w => (renF fa fh w).map fun x => .ifc t x
 | .agg ws => (renFL fa fh ws).map fun l => .agg l
 | .tup ws => (renFL fa fh ws).map fun l => .tup l
 | .undef => some .undef
 | .bool b => some (.bool b)
 | .int k n => some (.int k n)
 | .str s => some (.str s)
 | .nilp => some .nilp
 | .nilsl => some .nilsl
 | .row k l f => some (.row k l f)
 | .relem k x o => some (.relem k x o)
 | .nilm => some .nilm
 | .nilf => some .nilf
 | .nili => some .nili
def renFL (fa fh : Nat → Option Nat) : List (W T) → Option (List (W T))
 | [] => some []
 | w :: ws => (renF fa fh w).bind fun x => (renFL fa fh ws).map fun l => x :: l
end
def renFU (fa fh : Nat → Option Nat) (w : W T) : W T := (renF fa fh w).getD .undef
structure Ren (fa fh : Nat → Option Nat) (α α' : List Nat) (β β' : Bt) : Prop where
 a : ∀ (i p j : Nat), fa i = some p → α[i]? = some j → α'[p]? = some j
 h : ∀ (i p : Nat) x, fh i = some p → β[i]? = some x → β'[p]? = some x
mutual
theorem renF_rep {fa fh : Nat → Option Nat} (N : Ren fa fh α α' β β') : ∀ {w w' : W T} {v : V}, renF fa fh w = some w' → Rep C α β w v → Rep C α' β' w' v
 | .ptr i off, w', v, hw, hr => by
  simp only [renF] at hw
  obtain ⟨p, hp, rfl⟩ := Option.map_eq_some_iff.1 hw
  simp only [Rep] at hr ⊢
  obtain ⟨j, h1, h2⟩ := hr
  exact ⟨j, N.a _ _ _ hp h1, h2⟩
 | .own k h, w', v, hw, hr => by
  simp only [renF] at hw
  obtain ⟨p, hp, rfl⟩ := Option.map_eq_some_iff.1 hw
  simp only [Rep] at hr ⊢
  rcases hr with ⟨h1, h2⟩ | ⟨b, ver, n, h1, h2⟩
  ·exact .inl ⟨N.h _ _ _ hp h1, h2⟩
  ·exact .inr ⟨b, ver, n, N.h _ _ _ hp h1, h2⟩
 | .view k h off len, w', v, hw, hr => by
  simp only [renF] at hw
  obtain ⟨p, hp, rfl⟩ := Option.map_eq_some_iff.1 hw
  simp only [Rep] at hr ⊢
  rcases hr with ⟨h1, h2⟩ | ⟨b, ver, n, h1, h2⟩
  ·exact .inl ⟨N.h _ _ _ hp h1, h2⟩
  ·exact .inr ⟨b, ver, n, N.h _ _ _ hp h1, h2⟩
 | .oelem k h i off, w', v, hw, hr => by
  simp only [renF] at hw
  obtain ⟨p, hp, rfl⟩ := Option.map_eq_some_iff.1 hw
  simp only [Rep] at hr ⊢
  obtain ⟨b, ver, n, h1, h2⟩ := hr
  exact ⟨b, ver, n, N.h _ _ _ hp h1, h2⟩
 | .map h, w', v, hw, hr => by
  simp only [renF] at hw
  obtain ⟨p, hp, rfl⟩ := Option.map_eq_some_iff.1 hw
  simp only [Rep] at hr ⊢
  obtain ⟨b, ver, n, h1, h2⟩ := hr
  exact ⟨b, ver, n, N.h _ _ _ hp h1, h2⟩
 | .yld h, w', v, hw, hr => by
  simp only [renF] at hw
  obtain ⟨p, hp, rfl⟩ := Option.map_eq_some_iff.1 hw
  simp only [Rep] at hr ⊢
  obtain ⟨b, ver, n, h1, h2⟩ := hr
  exact ⟨b, ver, n, N.h _ _ _ hp h1, h2⟩
 | .fn f ws, w', v, hw, hr => by
  simp only [renF] at hw
  obtain ⟨l, hl, rfl⟩ := Option.map_eq_some_iff.1 hw
  simp only [Rep] at hr ⊢
  obtain ⟨vs, h1, h2⟩ := hr
  exact ⟨vs, h1, renFL_rep N hl h2⟩
 | .ifc t w, w', v, hw, hr => by
  simp only [renF] at hw
  obtain ⟨l, hl, rfl⟩ := Option.map_eq_some_iff.1 hw
  simp only [Rep] at hr ⊢
  obtain ⟨u, h1, h2⟩ := hr
  exact ⟨u, h1, renF_rep N hl h2⟩
 | .agg ws, w', v, hw, hr => by
  simp only [renF] at hw
  obtain ⟨l, hl, rfl⟩ := Option.map_eq_some_iff.1 hw
  simp only [Rep] at hr ⊢
  obtain ⟨vs, h1, h2⟩ := hr
  exact ⟨vs, h1, renFL_rep N hl h2⟩
 | .tup ws, w', v, hw, hr => by
  simp only [renF] at hw
  obtain ⟨l, hl, rfl⟩ := Option.map_eq_some_iff.1 hw
  simp only [Rep] at hr ⊢
  obtain ⟨vs, h1, h2⟩ := hr
  exact ⟨vs, h1, renFL_rep N hl h2⟩
 | .undef, w', v, hw, hr | .bool _, w', v, hw, hr | .int _ _, w', v, hw, hr | .str _, w', v, hw, hr | .nilp, w', v, hw, hr | .nilsl, w', v, hw, hr | .row _ _ _, w', v, hw, hr
 | .relem _ _ _, w', v, hw, hr | .nilm, w', v, hw, hr | .nilf, w', v, hw, hr | .nili, w', v, hw, hr => by
  simp only [renF, Option.some.injEq] at hw
  subst hw
  simpa only [Rep] using hr
theorem renFL_rep {fa fh : Nat → Option Nat} (N : Ren fa fh α α' β β') : ∀ {ws ws' : List (W T)} {vs : List V}, renFL fa fh ws = some ws' → RepL C α β ws vs → RepL C α' β' ws' vs
 | [], ws', vs, hw, hr => by
  simp only [renFL, Option.some.injEq] at hw
  subst hw
  simpa only [RepL] using hr
 | w :: ws, ws', vs, hw, hr => by
  simp only [renFL] at hw
  obtain ⟨x, hx, hw⟩ := Option.bind_eq_some_iff.1 hw
  obtain ⟨l, hl, rfl⟩ := Option.map_eq_some_iff.1 hw
  simp only [RepL] at hr
  obtain ⟨v, vs', rfl, h1, h2⟩ := hr
  exact RepL.cons (renF_rep N hx h1) (renFL_rep N hl h2)
end
theorem renFU_rep {fa fh : Nat → Option Nat} (N : Ren fa fh α α' β β') {w : W T} {v : V} (h : Rep C α β w v) : Rep C α' β' (renFU fa fh w) v := by
 unfold renFU
 cases hw : renF fa fh w with
 | none => simp only [Option.getD_none, Rep]
 | some x => exact renF_rep N hw h
theorem renFU_repL {fa fh : Nat → Option Nat} (N : Ren fa fh α α' β β') {ws : List (W T)} {vs : List V} (h : RepL C α β ws vs) : RepL C α' β' (ws.map (renFU fa fh)) vs := by
 induction ws generalizing vs with
 | nil => simpa only [List.map_nil, RepL] using h
 | cons w ws ihh =>
  simp only [RepL] at h
  obtain ⟨v, vs', rfl, h1, h2⟩ := h
  exact RepL.cons (renFU_rep N h1) (ihh h2)
def renFE (fa fh : Nat → Option Nat) : En T → En T
 | .loop s pend tm ps as bo pt => .loop s pend (tm.map (renFU fa fh)) ps as bo pt
 | e => e
theorem renFE_live {fa fh : Nat → Option Nat} {e : En T} : (renFE fa fh e).live = e.live := by cases e <;> rfl
theorem renFE_ok {fa fh : Nat → Option Nat} (N : Ren fa fh α α' β β') {h p : Nat} (hp : fh h = some p) {e : En T} (k : EnOk C α β m h e) : EnOk C α' β' m p (renFE fa fh e) := by
 cases e with
 | dead => trivial
 | rows kk l =>
  simp only [EnOk, renFE] at k ⊢
  rcases k with ⟨k1, k2⟩ | ⟨b, ver, cs, k1, k2, k3⟩
  ·exact .inl ⟨N.h _ _ _ hp k1, k2⟩
  ·exact .inr ⟨b, ver, cs, N.h _ _ _ hp k1, k2, k3⟩
 | map kk kv es =>
  simp only [EnOk, renFE] at k ⊢
  obtain ⟨b, ver, n, es', k1, k2, k3⟩ := k
  exact ⟨b, ver, n, es', N.h _ _ _ hp k1, k2, k3⟩
 | loop s pend tm ps as bo pt =>
  simp only [EnOk, renFE] at k ⊢
  obtain ⟨b, ver, n, tm', k1, k2, k3⟩ := k
  exact ⟨b, ver, n, tm', N.h _ _ _ hp k1, k2, renFU_repL N k3⟩
def αren (α : List Nat) (ia : List Nat) : List Nat := ia.map fun i => (α[i]?).getD 0
theorem posOf_lt {l : List Nat} {h p : Nat} (k : posOf l h = some p) : p < l.length := (List.getElem?_eq_some_iff.1 (posOf_some k)).1
theorem posOf_inv {l : List Nat} (hn : nodupB l = true) {h p : Nat} (k : l[p]? = some h) : posOf l h = some p := by
 have := posOf_mem k
 obtain ⟨q, hq⟩ := Option.isSome_iff_exists.1 this
 rw [hq, nodupB_inj hn (posOf_some hq) k]
theorem αren_get {ia : List Nat} {p i j : Nat} (hp : ia[p]? = some i) (ha : α[i]? = some j) : (αren α ia)[p]? = some j := by
 unfold αren; rw [List.getElem?_map, hp]; simp [ha]
theorem αren_inv {ia : List Nat} (hl : ∀ (p i : Nat), ia[p]? = some i → i < α.length) {p j : Nat} (h : (αren α ia)[p]? = some j) : ∃ i, ia[p]? = some i ∧ α[i]? = some j := by
 unfold αren at h
 rw [List.getElem?_map] at h
 obtain ⟨i, h1, h2⟩ := Option.map_eq_some_iff.1 h
 refine ⟨i, h1, ?_⟩
 have := List.getElem?_eq_getElem (hl p i h1)
 rw [this] at h2 ⊢
 simpa using h2
theorem βren_getp {ih : List Nat} {p h : Nat} {x : Option (Nat × Nat × Nat)} (hp : ih[p]? = some h) (hb : β[h]? = some x) : (βren β ih)[p]? = some x := by
 unfold βren; rw [List.getElem?_map, hp]; simp [hb]
theorem βren_inv {ih : List Nat} {h b ver n : Nat} (hb : (βren β ih)[h]? = some (some (b, ver, n))) : ∃ h0, ih[h]? = some h0 ∧ β[h0]? = some (some (b, ver, n)) := by
 unfold βren at hb
 rw [List.getElem?_map] at hb
 obtain ⟨h0, h1, h2⟩ := Option.map_eq_some_iff.1 hb
 refine ⟨h0, h1, ?_⟩
 cases hx : β[h0]? with
 | none => rw [hx] at h2; cases h2
 | some y => rw [hx] at h2; simp at h2; rw [h2]
theorem ren_sel {ia ih : List Nat} : Ren (posOf ia) (posOf ih) α (αren α ia) β (βren β ih) :=
 ⟨fun i p j hp ha => αren_get (posOf_some hp) ha, fun i p x hp hb => βren_getp (posOf_some hp) hb⟩
def pickA (ia ih : List Nat) (wm : WM T) : List (List (W T)) := ia.map fun i => ((wm.A[i]?).getD []).map (renFU (posOf ia) (posOf ih))
def pickH (ia ih : List Nat) (wm : WM T) : List (En T) := ih.map fun h => renFE (posOf ia) (posOf ih) ((wm.H[h]?).getD .dead)
theorem pickA_get {ia ih : List Nat} {wm : WM T} (hl : ∀ (p i : Nat), ia[p]? = some i → i < wm.A.length) {p : Nat} {ws : List (W T)} (h : (pickA ia ih wm)[p]? = some ws) : ∃ i ws0, ia[p]? = some i ∧ wm.A[i]? = some ws0 ∧ ws = ws0.map (renFU (posOf ia) (posOf ih)) := by
 unfold pickA at h
 rw [List.getElem?_map] at h
 obtain ⟨i, h1, h2⟩ := Option.map_eq_some_iff.1 h
 refine ⟨i, wm.A[i]'(hl p i h1), h1, List.getElem?_eq_getElem _, ?_⟩
 rw [← h2, List.getElem?_eq_getElem (hl p i h1)]
 rfl
theorem pickH_get {ia ih : List Nat} {wm : WM T} (hl : ∀ (p i : Nat), ih[p]? = some i → i < wm.H.length) {p : Nat} {e : En T} (h : (pickH ia ih wm)[p]? = some e) : ∃ i e0, ih[p]? = some i ∧ wm.H[i]? = some e0 ∧ e = renFE (posOf ia) (posOf ih) e0 := by
 unfold pickH at h
 rw [List.getElem?_map] at h
 obtain ⟨i, h1, h2⟩ := Option.map_eq_some_iff.1 h
 refine ⟨i, wm.H[i]'(hl p i h1), h1, List.getElem?_eq_getElem _, ?_⟩
 rw [← h2, List.getElem?_eq_getElem (hl p i h1)]
 rfl
def allLt (l : List Nat) (n : Nat) : Bool := l.all fun i => Nat.blt i n
theorem allLt_get {l : List Nat} {n : Nat} (h : allLt l n = true) {p i : Nat} (k : l[p]? = some i) : i < n := by
 have := List.all_eq_true.1 h i (List.mem_of_getElem? k)
 simpa using this
def allGe (l : List Nat) (n : Nat) : Bool := l.all fun i => Nat.ble n i
theorem allGe_get {l : List Nat} {n : Nat} (h : allGe l n = true) {p i : Nat} (k : l[p]? = some i) : n ≤ i := by
 have := List.all_eq_true.1 h i (List.mem_of_getElem? k)
 simpa using this
def allLive (wm : WM T) (l : List Nat) : Bool := l.all fun i => match wm.H[i]? with | some e => e.live | none => false
theorem allLive_get {l : List Nat} (h : allLive wm l = true) {p i : Nat} (k : l[p]? = some i) {e : En T} (he : wm.H[i]? = some e) : e.live = true := by
 have := List.all_eq_true.1 h i (List.mem_of_getElem? k)
 simpa [he] using this
def selOk (ia ih : List Nat) (wm : WM T) : Bool := nodupB ia && nodupB ih && allLt ia wm.A.length && allLt ih wm.H.length && allGe ia wm.la && allGe ih wm.lh && allLive wm ih
def selM (ia ih : List Nat) (wm : WM T) : WM T := { A := pickA ia ih wm, H := pickH ia ih wm, la := 0, lh := 0, pa := ia.length, ph := ih.length }
theorem sel_sound {ia ih : List Nat} (h : selOk ia ih wm = true) (S : WSim bs C α β wm m) : WSim ⟨m, αren α ia, βren β ih⟩ C (αren α ia) (βren β ih) (selM ia ih wm) m := by
 simp only [selOk, Bool.and_eq_true] at h
 obtain ⟨⟨⟨⟨⟨⟨na, nh⟩, lA⟩, lH⟩, gA⟩, gH⟩, lv⟩ := h
 have hlA : ∀ (p i : Nat), ia[p]? = some i → i < wm.A.length := fun p i => allLt_get lA
 have hlH : ∀ (p i : Nat), ih[p]? = some i → i < wm.H.length := fun p i => allLt_get lH
 have hlα : ∀ (p i : Nat), ia[p]? = some i → i < α.length := fun p i hp => by rw [S.lenA]; exact hlA p i hp
 have N : Ren (posOf ia) (posOf ih) α (αren α ia) β (βren β ih) := ren_sel
 exact {
  lenA := by simp [αren, selM, pickA]
  lenH := by simp [βren, selM, pickH]
  A := fun p j ws h1 h2 => by
   obtain ⟨i, g1, g2⟩ := αren_inv hlα h1
   obtain ⟨i', ws0, g3, g4, rfl⟩ := pickA_get hlA h2
   rw [g1] at g3; injection g3 with g3; subst g3
   obtain ⟨vs, g5, g6⟩ := S.A i j ws0 g2 g4
   exact ⟨vs, g5, renFU_repL N g6⟩
  injA := fun p p' j h1 h2 => by
   obtain ⟨i, g1, g2⟩ := αren_inv hlα h1
   obtain ⟨i', g3, g4⟩ := αren_inv hlα h2
   have := S.injA i i' j g2 g4
   subst this
   exact nodupB_inj na g1 g3
  la := fun p j h1 _ => by
   obtain ⟨i, g1, g2⟩ := αren_inv hlα h1
   exact S.la i j g2 (allGe_get gA g1)
  H := fun p e he => by
   obtain ⟨i, e0, g1, g2, rfl⟩ := pickH_get hlH he
   exact renFE_ok N (posOf_inv nh g1) (S.H i e0 g2)
  injH := fun p p' e e' b ver n ver' n' h1 h2 l1 l2 b1 b2 => by
   obtain ⟨i, e0, g1, g2, rfl⟩ := pickH_get hlH h1
   obtain ⟨i', e0', g1', g2', rfl⟩ := pickH_get hlH h2
   obtain ⟨h0, k1, k2⟩ := βren_inv b1
   obtain ⟨h0', k1', k2'⟩ := βren_inv b2
   rw [g1] at k1; injection k1 with k1; subst k1
   rw [g1'] at k1'; injection k1' with k1'; subst k1'
   have := S.injH _ _ _ _ _ _ _ _ _ g2 g2' (by rw [← renFE_live]; exact l1) (by rw [← renFE_live]; exact l2) k2 k2'
   subst this
   exact nodupB_inj nh g1 g1'
  lb := fun p e b ver n he l hb _ => by
   obtain ⟨i, e0, g1, g2, rfl⟩ := pickH_get hlH he
   obtain ⟨h0, k1, k2⟩ := βren_inv hb
   rw [g1] at k1; injection k1 with k1; subst k1
   exact S.lb _ _ _ _ _ g2 (by rw [← renFE_live]; exact l) k2 (allGe_get gH g1)
  ltB := fun p b ver n hb => by
   obtain ⟨h0, _, k2⟩ := βren_inv hb
   exact S.ltB _ _ _ _ k2
  pa := List.prefix_refl _
  pb := List.prefix_refl _
  na := fun i j h1 h2 => by have := (List.getElem?_eq_some_iff.1 h1).1; simp only at h2; omega
  nb := fun h b ver n hb => .inl ⟨h, ver, n, hb⟩
  fa := fun _ _ _ => rfl
  fb := fun _ _ _ => rfl
  lenA0 := Nat.le_refl _
  lenB0 := Nat.le_refl _
  la0 := rfl
  lb0 := rfl
  bla := by have := S.la0; have := S.bla; have := S.lenA0; show m.la ≤ m.A.length; omega
  blb := by have := S.lb0; have := S.blb; have := S.lenB0; show m.lb ≤ m.B.length; omega
  hpa := by simp [αren, selM]
  bα := fun p j h1 => by
   obtain ⟨i, g1, g2⟩ := αren_inv hlα h1
   exact S.ltA g2
  hph := by simp [βren, selM] }
def backF (ia : List Nat) (n : Nat) (p : Nat) : Option Nat :=
 match ia[p]? with
 | some i => some i
 | none => some (n + (p - ia.length))
def backL {X : Type} (d : X) (old : List X) (ia : List Nat) (new : List X) : List X :=
 ((List.range old.length).map fun i => match posOf ia i with | some p => (new[p]?).getD d | none => (old[i]?).getD d) ++ new.drop ia.length
theorem backL_length {X : Type} {d : X} {old new : List X} {ia : List Nat} : (backL d old ia new).length = old.length + (new.length - ia.length) := by simp [backL]
theorem backL_old {X : Type} {d : X} {old new : List X} {ia : List Nat} {i : Nat} {x : X} (h : (backL d old ia new)[i]? = some x) (hi : i < old.length) (hn : posOf ia i = none) : old[i]? = some x := by
 unfold backL at h
 rw [List.getElem?_append_left (by simpa using hi), List.getElem?_map, List.getElem?_range hi] at h
 simp only [Option.map_some, hn, Option.some.injEq] at h
 rw [List.getElem?_eq_getElem hi] at h ⊢
 simpa using h
theorem backL_sel {X : Type} {d : X} {old new : List X} {ia : List Nat} {i p : Nat} {x : X} (h : (backL d old ia new)[i]? = some x) (hi : i < old.length) (hp : posOf ia i = some p) (hl : ia.length ≤ new.length) : new[p]? = some x := by
 unfold backL at h
 rw [List.getElem?_append_left (by simpa using hi), List.getElem?_map, List.getElem?_range hi] at h
 simp only [Option.map_some, hp, Option.some.injEq] at h
 have : p < new.length := Nat.lt_of_lt_of_le (posOf_lt hp) hl
 rw [List.getElem?_eq_getElem this] at h ⊢
 simpa using h
theorem backL_new {X : Type} {d : X} {old new : List X} {ia : List Nat} {i : Nat} {x : X} (h : (backL d old ia new)[i]? = some x) (hi : old.length ≤ i) : new[ia.length + (i - old.length)]? = some x := by
 unfold backL at h
 rw [List.getElem?_append_right (by simpa using hi)] at h
 simpa using h
def backM (ia ih : List Nat) (wm wl : WM T) : WM T :=
 { A := backL [] wm.A ia (wl.A.map (List.map (renFU (backF ia wm.A.length) (backF ih wm.H.length)))), H := backL .dead wm.H ih (wl.H.map (renFE (backF ia wm.A.length) (backF ih wm.H.length))), la := wm.la, lh := wm.lh, pa := wm.pa, ph := wm.ph }
theorem ren_back {ia ih : List Nat} {n q : Nat} (hn : α.length = n) (hq : β.length = q) (lA : ∀ (p i : Nat), ia[p]? = some i → i < α.length) (pa : αren α ia <+: α') (pb : βren β ih <+: β') (lH : ∀ (p i : Nat), ih[p]? = some i → i < β.length) :
  Ren (backF ia n) (backF ih q) α' (α ++ α'.drop ia.length) β' (β ++ β'.drop ih.length) := by
 constructor
 ·intro p i j hf ha
  unfold backF at hf
  split at hf
  ·rename_i i' hi
   injection hf with hf
   subst hf
   have h1 : α[i']? = some (α[i']'(lA _ _ hi)) := List.getElem?_eq_getElem _
   have h2 := get_pre pa (αren_get hi h1)
   rw [ha] at h2; injection h2 with h2
   rw [List.getElem?_append_left (lA _ _ hi), h1, h2]
  ·rename_i hi
   injection hf with hf
   subst hf
   have : ia.length ≤ p := by
    apply Nat.le_of_not_lt
    intro hlt
    rw [List.getElem?_eq_getElem hlt] at hi
    cases hi
   rw [List.getElem?_append_right (by omega), List.getElem?_drop, hn, show ia.length + (n + (p - ia.length) - n) = p by omega]
   exact ha
 ·intro p i x hf hb
  unfold backF at hf
  split at hf
  ·rename_i i' hi
   injection hf with hf
   subst hf
   have h1 : β[i']? = some (β[i']'(lH _ _ hi)) := List.getElem?_eq_getElem _
   have h2 := get_pre pb (βren_getp hi h1)
   rw [hb] at h2; injection h2 with h2
   rw [List.getElem?_append_left (lH _ _ hi), h1, h2]
  ·rename_i hi
   injection hf with hf
   subst hf
   have : ih.length ≤ p := by
    apply Nat.le_of_not_lt
    intro hlt
    rw [List.getElem?_eq_getElem hlt] at hi
    cases hi
   rw [List.getElem?_append_right (by omega), List.getElem?_drop, hq, show ih.length + (q + (p - ih.length) - q) = p by omega]
   exact hb
def backOk (ia ih : List Nat) (wl : WM T) : Bool := Nat.beq wl.lh 0 && Nat.ble ia.length wl.A.length && Nat.ble ih.length wl.H.length
theorem back_sound {ia ih : List Nat} {wl : WM T} (h : selOk ia ih wm = true) (hb : backOk ia ih wl = true) (S : WSim bs C α β wm m) (S' : WSim ⟨m, αren α ia, βren β ih⟩ C α' β' wl m') :
  WSim bs C (α ++ α'.drop ia.length) (β ++ β'.drop ih.length) (backM ia ih wm wl) m' ∧ Ren (backF ia wm.A.length) (backF ih wm.H.length) α' (α ++ α'.drop ia.length) β' (β ++ β'.drop ih.length) := by
 simp only [selOk, Bool.and_eq_true] at h
 obtain ⟨⟨⟨⟨⟨⟨na, nh⟩, lA⟩, lH⟩, gA⟩, gH⟩, lv⟩ := h
 simp only [backOk, Bool.and_eq_true] at hb
 obtain ⟨⟨hlh, hA⟩, hH⟩ := hb
 have hlh : wl.lh = 0 := by simpa using hlh
 have hA : ia.length ≤ wl.A.length := by simpa using hA
 have hH : ih.length ≤ wl.H.length := by simpa using hH
 have hlA : ∀ (p i : Nat), ia[p]? = some i → i < wm.A.length := fun p i => allLt_get lA
 have hlH : ∀ (p i : Nat), ih[p]? = some i → i < wm.H.length := fun p i => allLt_get lH
 have hlα : ∀ (p i : Nat), ia[p]? = some i → i < α.length := fun p i hp => by rw [S.lenA]; exact hlA p i hp
 have hlβ : ∀ (p i : Nat), ih[p]? = some i → i < β.length := fun p i hp => by rw [S.lenH]; exact hlH p i hp
 have N : Ren (backF ia wm.A.length) (backF ih wm.H.length) α' (α ++ α'.drop ia.length) β' (β ++ β'.drop ih.length) := ren_back S.lenA S.lenH hlα S'.pa S'.pb hlβ
 refine ⟨?_, N⟩
 have pre : α <+: α ++ α'.drop ia.length := pre_app _ _
 have preb : β <+: β ++ β'.drop ih.length := pre_app _ _
 have hll : (αren α ia).length = ia.length := by simp [αren]
 have hlb : (βren β ih).length = ih.length := by simp [βren]
 have caseA : ∀ (i j : Nat), (α ++ α'.drop ia.length)[i]? = some j → (i < wm.A.length ∧ α[i]? = some j ∧ posOf ia i = none) ∨ (∃ p, α'[p]? = some j ∧ ((i < wm.A.length ∧ α[i]? = some j ∧ posOf ia i = some p) ∨ (wm.A.length ≤ i ∧ p = ia.length + (i - wm.A.length)))) := by
  intro i j hi
  by_cases hlt : i < α.length
  ·rw [List.getElem?_append_left hlt] at hi
   cases hp : posOf ia i with
   | none => exact .inl ⟨by rw [← S.lenA]; exact hlt, hi, rfl⟩
   | some p => exact .inr ⟨p, get_pre S'.pa (αren_get (posOf_some hp) hi), .inl ⟨by rw [← S.lenA]; exact hlt, hi, rfl⟩⟩
  ·rw [List.getElem?_append_right (by omega), List.getElem?_drop, S.lenA] at hi
   exact .inr ⟨_, hi, .inr ⟨by rw [← S.lenA]; omega, rfl⟩⟩
 have newA : ∀ (i p j : Nat), wm.A.length ≤ i → p = ia.length + (i - wm.A.length) → α'[p]? = some j → m.A.length ≤ j := by
  intro i p j hi hp hj
  exact S'.na p j hj (by show (αren α ia).length ≤ p; omega)
 have caseH : ∀ (h : Nat) e, (backM ia ih wm wl).H[h]? = some e → (h < wm.H.length ∧ wm.H[h]? = some e ∧ posOf ih h = none) ∨ (∃ p e0, wl.H[p]? = some e0 ∧ e = renFE (backF ia wm.A.length) (backF ih wm.H.length) e0 ∧ backF ih wm.H.length p = some h ∧ ((h < wm.H.length ∧ posOf ih h = some p) ∨ (wm.H.length ≤ h ∧ p = ih.length + (h - wm.H.length)))) := by
  intro h e he
  simp only [backM] at he
  by_cases hlt : h < wm.H.length
  ·cases hp : posOf ih h with
   | none => exact .inl ⟨hlt, backL_old he hlt hp, rfl⟩
   | some p =>
    have := backL_sel he hlt hp (by simpa using hH)
    rw [List.getElem?_map] at this
    obtain ⟨e0, g1, g2⟩ := Option.map_eq_some_iff.1 this
    refine .inr ⟨p, e0, g1, g2.symm, ?_, .inl ⟨hlt, rfl⟩⟩
    unfold backF
    rw [posOf_some hp]
  ·have := backL_new he (by omega)
   rw [List.getElem?_map] at this
   obtain ⟨e0, g1, g2⟩ := Option.map_eq_some_iff.1 this
   refine .inr ⟨_, e0, g1, g2.symm, ?_, .inr ⟨by omega, rfl⟩⟩
   unfold backF
   rw [List.getElem?_eq_none (by omega)]
   simp only [Option.some.injEq]
   omega
 have bigH : ∀ (h b ver n : Nat), (β ++ β'.drop ih.length)[h]? = some (some (b, ver, n)) → (h < wm.H.length ∧ β[h]? = some (some (b, ver, n))) ∨ (wm.H.length ≤ h ∧ β'[ih.length + (h - wm.H.length)]? = some (some (b, ver, n))) := by
  intro h b ver n hb
  by_cases hlt : h < β.length
  ·rw [List.getElem?_append_left hlt] at hb
   exact .inl ⟨by rw [← S.lenH]; exact hlt, hb⟩
  ·rw [List.getElem?_append_right (by omega), List.getElem?_drop, S.lenH] at hb
   exact .inr ⟨by rw [← S.lenH]; omega, hb⟩
 have locH : ∀ (h p b ver n : Nat), ((h < wm.H.length ∧ posOf ih h = some p) ∨ (wm.H.length ≤ h ∧ p = ih.length + (h - wm.H.length))) → (β ++ β'.drop ih.length)[h]? = some (some (b, ver, n)) → β'[p]? = some (some (b, ver, n)) := by
  intro h p b ver n hc hb
  rcases hc with ⟨h1, h2⟩ | ⟨h1, rfl⟩
  ·rcases bigH _ _ _ _ hb with ⟨_, h3⟩ | ⟨h3, _⟩
   ·exact get_pre S'.pb (βren_getp (posOf_some h2) h3)
   ·omega
  ·rcases bigH _ _ _ _ hb with ⟨h3, _⟩ | ⟨_, h3⟩
   ·omega
   ·exact h3
 have apart : ∀ (h : Nat) e b ver n, wm.H[h]? = some e → e.live = true → posOf ih h = none → β[h]? = some (some (b, ver, n)) → ∀ (p ver' n' : Nat), β'[p]? ≠ some (some (b, ver', n')) := by
  intro h e b ver n he hl hp hb p ver' n' hb'
  rcases S'.nb p b ver' n' hb' with ⟨h', v1, n1, hx⟩ | hge
  ·obtain ⟨h0, k1, k2⟩ := βren_inv hx
   have hl0 := hlH _ _ k1
   have := S.injH h h0 e (wm.H[h0]) b ver n v1 n1 he (List.getElem?_eq_getElem hl0) hl (allLive_get lv k1 (List.getElem?_eq_getElem hl0)) hb k2
   subst this
   rw [posOf_inv nh k1] at hp
   cases hp
  ·have := S.ltB _ _ _ _ hb
   simp only at hge
   omega
 exact {
  lenA := by
   rw [List.length_append, List.length_drop, S.lenA]
   simp only [backM, backL_length, List.length_map]
   have := S'.lenA
   omega
  lenH := by
   rw [List.length_append, List.length_drop, S.lenH]
   simp only [backM, backL_length, List.length_map]
   have := S'.lenH
   omega
  A := fun i j ws h1 h2 => by
   simp only [backM] at h2
   rcases caseA i j h1 with ⟨g1, g2, g3⟩ | ⟨p, g1, g2⟩
   ·have h3 := backL_old h2 g1 g3
    obtain ⟨vs, g4, g5⟩ := S.A i j ws g2 h3
    refine ⟨vs, ?_, g5.ext pre preb⟩
    rw [S'.fa j (S.ltA g2) (fun q hq => by
     obtain ⟨i0, k1, k2⟩ := αren_inv hlα hq
     have := S.injA _ _ _ g2 k2
     subst this
     rw [posOf_inv na k1] at g3
     cases g3)]
    exact g4
   ·have h3 : (wl.A.map (List.map (renFU (backF ia wm.A.length) (backF ih wm.H.length))))[p]? = some ws := by
     rcases g2 with ⟨k1, _, k3⟩ | ⟨k1, rfl⟩
     ·exact backL_sel h2 k1 k3 (by simpa using hA)
     ·exact backL_new h2 k1
    rw [List.getElem?_map] at h3
    obtain ⟨ws0, k1, rfl⟩ := Option.map_eq_some_iff.1 h3
    obtain ⟨vs, k2, k3⟩ := S'.A p j ws0 g1 k1
    exact ⟨vs, k2, renFU_repL N k3⟩
  injA := fun i i' j h1 h2 => by
   have old : ∀ (i : Nat), (α ++ α'.drop ia.length)[i]? = some j → (i < wm.A.length ∧ α[i]? = some j) ∨ (wm.A.length ≤ i ∧ α'[ia.length + (i - wm.A.length)]? = some j) := by
    intro i hi
    rcases caseA i j hi with ⟨g1, g2, _⟩ | ⟨p, g1, ⟨g2, g3, _⟩ | ⟨g2, rfl⟩⟩
    ·exact .inl ⟨g1, g2⟩
    ·exact .inl ⟨g2, g3⟩
    ·exact .inr ⟨g2, g1⟩
   rcases old i h1 with ⟨a1, a2⟩ | ⟨a1, a2⟩ <;> rcases old i' h2 with ⟨b1, b2⟩ | ⟨b1, b2⟩
   ·exact S.injA _ _ _ a2 b2
   ·have := S.ltA a2; have := newA i' _ j b1 rfl b2; omega
   ·have := S.ltA b2; have := newA i _ j a1 rfl a2; omega
   ·have := S'.injA _ _ _ a2 b2; omega
  la := fun i j h1 h2 => by
   have e : m'.la = m.la := S'.la0
   rw [e]
   rcases caseA i j h1 with ⟨g1, g2, _⟩ | ⟨p, g1, ⟨g2, g3, _⟩ | ⟨g2, g3⟩⟩
   ·exact S.la i j g2 h2
   ·exact S.la i j g3 h2
   ·have := newA i p j g2 g3 g1
    have : m.la ≤ m.A.length := S'.bla
    omega
  H := fun h e he => by
   rcases caseH h e he with ⟨g1, g2, g3⟩ | ⟨p, e0, g1, rfl, g3, _⟩
   ·refine EnOk.mem (m := m) (fun hl b ver n hb => ?_) ((S.H h e g2).ext pre preb)
    rcases bigH _ _ _ _ hb with ⟨_, hb⟩ | ⟨hx, _⟩
    ·exact S'.fb b (S.ltB _ _ _ _ hb) (fun h' ver' n' hx => apart h e b ver n g2 hl g3 hb h' ver' n' (get_pre S'.pb hx))
    ·omega
   ·exact renFE_ok N g3 (S'.H p e0 g1)
  injH := fun h h' e e' b ver n ver' n' h1 h2 l1 l2 b1 b2 => by
   rcases caseH h e h1 with ⟨g1, g2, g3⟩ | ⟨p, e0, g1, rfl, g3, g4⟩ <;> rcases caseH h' e' h2 with ⟨k1, k2, k3⟩ | ⟨p', e0', k1, rfl, k3, k4⟩
   ·rcases bigH _ _ _ _ b1 with ⟨_, b1⟩ | ⟨hx, _⟩
    ·rcases bigH _ _ _ _ b2 with ⟨_, b2⟩ | ⟨hx, _⟩
     ·exact S.injH _ _ _ _ _ _ _ _ _ g2 k2 l1 l2 b1 b2
     ·omega
    ·omega
   ·rcases bigH _ _ _ _ b1 with ⟨_, b1⟩ | ⟨hx, _⟩
    ·exact absurd (locH _ _ _ _ _ k4 b2) (apart h e b ver n g2 l1 g3 b1 p' ver' n')
    ·omega
   ·rcases bigH _ _ _ _ b2 with ⟨_, b2⟩ | ⟨hx, _⟩
    ·exact absurd (locH _ _ _ _ _ g4 b1) (apart h' e' b ver' n' k2 l2 k3 b2 p ver n)
    ·omega
   ·have := S'.injH _ _ _ _ _ _ _ _ _ g1 k1 (by rw [← renFE_live]; exact l1) (by rw [← renFE_live]; exact l2) (locH _ _ _ _ _ g4 b1) (locH _ _ _ _ _ k4 b2)
    subst this
    rcases g4 with ⟨q1, q2⟩ | ⟨q1, q2⟩ <;> rcases k4 with ⟨r1, r2⟩ | ⟨r1, r2⟩
    ·have e1 := posOf_some q2
     have e2 := posOf_some r2
     rw [e1] at e2; injection e2
    ·have := posOf_lt q2; omega
    ·have := posOf_lt r2; omega
    ·omega
  lb := fun h e b ver n he l hb hlh' => by
   have e1 : m'.lb = m.lb := S'.lb0
   rcases caseH h e he with ⟨g1, g2, g3⟩ | ⟨p, e0, g1, rfl, g3, g4⟩
   ·rw [e1]
    rcases bigH _ _ _ _ hb with ⟨_, hb⟩ | ⟨hx, _⟩
    ·exact S.lb _ _ _ _ _ g2 l hb hlh'
    ·omega
   ·exact S'.lb _ _ _ _ _ g1 (by rw [← renFE_live]; exact l) (locH _ _ _ _ _ g4 hb) (by omega)
  ltB := fun h b ver n hb => by
   have : m.B.length ≤ m'.B.length := S'.lenB0
   rcases bigH _ _ _ _ hb with ⟨_, hb⟩ | ⟨_, hb⟩
   ·have := S.ltB _ _ _ _ hb; omega
   ·exact S'.ltB _ _ _ _ hb
  pa := S.pa.trans pre
  pb := S.pb.trans preb
  na := fun i j h1 h2 => by
   have := S.lenA0
   rcases caseA i j h1 with ⟨g1, g2, _⟩ | ⟨p, g1, ⟨g2, g3, _⟩ | ⟨g2, g3⟩⟩
   ·exact S.na i j g2 h2
   ·exact S.na i j g3 h2
   ·have := newA i p j g2 g3 g1
    omega
  nb := fun h b ver n hb => by
   rcases bigH _ _ _ _ hb with ⟨_, hb⟩ | ⟨_, hb⟩
   ·exact S.nb _ _ _ _ hb
   ·rcases S'.nb _ _ _ _ hb with ⟨h', v1, n1, hx⟩ | hge
    ·obtain ⟨h0, _, k2⟩ := βren_inv hx
     exact S.nb _ _ _ _ k2
    ·have := S.lenB0
     simp only at hge
     right; omega
  fa := fun j hj hn => by
   have := S.lenA0
   rw [S'.fa j (by show j < m.A.length; omega) (fun q hq => by
    obtain ⟨i0, _, k2⟩ := αren_inv hlα hq
    exact S.not_old hj hn i0 k2)]
   exact S.fa j hj hn
  fb := fun b hb hn => by
   have := S.lenB0
   rw [S'.fb b (by show b < m.B.length; omega) (fun h ver n hh => by
    obtain ⟨h0, _, k2⟩ := βren_inv hh
    rcases S.nb _ _ _ _ k2 with ⟨h', ver', n', hb'⟩ | hge
    ·exact hn _ _ _ hb'
    ·omega)]
   exact S.fb b hb hn
  lenA0 := Nat.le_trans S.lenA0 S'.lenA0
  lenB0 := Nat.le_trans S.lenB0 S'.lenB0
  la0 := S'.la0.trans S.la0
  lb0 := S'.lb0.trans S.lb0
  bla := S.bla
  blb := S.blb
  hpa := S.hpa
  bα := S.bα
  hph := S.hph }
end Go.Proofs.YtpdgbhjhodhkiaaGreatDoor.AI
namespace Go.Proofs.YtpdgbhjhodhkiaaGreatDoor.AI
open Go
variable {T : Nat → Type} {C : Cod T} {R : Type} {P : Program} {cfg : Cfg} {wc : WCfg T} {I : WI T R}
variable {bs : Base} {α α' : List Nat} {β β' : Bt} {wm wm' : WM T} {m m' : Mem}
def pack2 (ia ih : List Nat) (x : List (W T) × WM T) : Option (List (W T) × WM T) :=
 if (nodupB ia && nodupB ih && allLt ia x.2.A.length && allLt ih x.2.H.length && startsB ia x.2.pa && startsB ih x.2.ph && Nat.ble x.2.la x.2.pa && Nat.ble x.2.lh x.2.ph) = true then
  some (x.1.map (renFU (posOf ia) (posOf ih)), { A := pickA ia ih x.2, H := pickH ia ih x.2, la := x.2.la, lh := x.2.lh, pa := x.2.pa, ph := x.2.ph })
 else none
theorem pack2_sound {ia ih : List Nat} {ws ws' : List (W T)} (h : pack2 ia ih (ws, wm) = some (ws', wm')) (S : WSim bs C α β wm m) :
  WSim bs C (αren α ia) (βren β ih) wm' m ∧ ∀ {vs}, RepL C α β ws vs → RepL C (αren α ia) (βren β ih) ws' vs := by
 unfold pack2 at h
 simp only at h
 split at h
 ·rename_i hc
  simp only [Bool.and_eq_true] at hc
  obtain ⟨⟨⟨⟨⟨⟨⟨na, nh⟩, lA⟩, lH⟩, sA⟩, sH⟩, hla⟩, hlh⟩ := hc
  have hla : wm.la ≤ wm.pa := by simpa using hla
  have hlh : wm.lh ≤ wm.ph := by simpa using hlh
  injection h with h
  simp only [Prod.mk.injEq] at h
  obtain ⟨rfl, rfl⟩ := h
  have hlA : ∀ (p i : Nat), ia[p]? = some i → i < wm.A.length := fun p i => allLt_get lA
  have hlH : ∀ (p i : Nat), ih[p]? = some i → i < wm.H.length := fun p i => allLt_get lH
  have hlα : ∀ (p i : Nat), ia[p]? = some i → i < α.length := fun p i hp => by rw [S.lenA]; exact hlA p i hp
  have N : Ren (posOf ia) (posOf ih) α (αren α ia) β (βren β ih) := ren_sel
  have hge : ∀ (p i : Nat), ia[p]? = some i → wm.pa ≤ p → wm.pa ≤ i := by
   intro p i hp hpp
   apply Nat.le_of_not_lt
   intro hlt
   have := nodupB_inj na (startsB_get sA hlt) hp
   omega
  have hgeh : ∀ (p i : Nat), ih[p]? = some i → wm.ph ≤ p → wm.ph ≤ i := by
   intro p i hp hpp
   apply Nat.le_of_not_lt
   intro hlt
   have := nodupB_inj nh (startsB_get sH hlt) hp
   omega
  refine ⟨?_, fun hr => renFU_repL N hr⟩
  exact { S with
   lenA := by simp [αren, pickA]
   lenH := by simp [βren, pickH]
   A := fun p j ws h1 h2 => by
    obtain ⟨i, g1, g2⟩ := αren_inv hlα h1
    obtain ⟨i', ws0, g3, g4, rfl⟩ := pickA_get hlA h2
    rw [g1] at g3; injection g3 with g3; subst g3
    obtain ⟨vs, g5, g6⟩ := S.A i j ws0 g2 g4
    exact ⟨vs, g5, renFU_repL N g6⟩
   injA := fun p p' j h1 h2 => by
    obtain ⟨i, g1, g2⟩ := αren_inv hlα h1
    obtain ⟨i', g3, g4⟩ := αren_inv hlα h2
    have := S.injA i i' j g2 g4
    subst this
    exact nodupB_inj na g1 g3
   la := fun p j h1 h2 => by
    obtain ⟨i, g1, g2⟩ := αren_inv hlα h1
    refine S.la i j g2 ?_
    by_cases hp : p < wm.pa
    ·have := startsB_get sA hp
     rw [g1] at this; injection this with this; subst this
     exact h2
    ·have := hge p i g1 (by omega)
     omega
   H := fun p e he => by
    obtain ⟨i, e0, g1, g2, rfl⟩ := pickH_get hlH he
    exact renFE_ok N (posOf_inv nh g1) (S.H i e0 g2)
   injH := fun p p' e e' b ver n ver' n' h1 h2 l1 l2 b1 b2 => by
    obtain ⟨i, e0, g1, g2, rfl⟩ := pickH_get hlH h1
    obtain ⟨i', e0', g1', g2', rfl⟩ := pickH_get hlH h2
    obtain ⟨h0, k1, k2⟩ := βren_inv b1
    obtain ⟨h0', k1', k2'⟩ := βren_inv b2
    rw [g1] at k1; injection k1 with k1; subst k1
    rw [g1'] at k1'; injection k1' with k1'; subst k1'
    have := S.injH _ _ _ _ _ _ _ _ _ g2 g2' (by rw [← renFE_live]; exact l1) (by rw [← renFE_live]; exact l2) k2 k2'
    subst this
    exact nodupB_inj nh g1 g1'
   lb := fun p e b ver n he l hb hl => by
    obtain ⟨i, e0, g1, g2, rfl⟩ := pickH_get hlH he
    obtain ⟨h0, k1, k2⟩ := βren_inv hb
    rw [g1] at k1; injection k1 with k1; subst k1
    refine S.lb _ _ _ _ _ g2 (by rw [← renFE_live]; exact l) k2 ?_
    by_cases hp : p < wm.ph
    ·have := startsB_get sH hp
     rw [g1] at this; injection this with this; subst this
     exact hl
    ·have := hgeh p i g1 (by omega)
     omega
   ltB := fun p b ver n hb => by
    obtain ⟨h0, _, k2⟩ := βren_inv hb
    exact S.ltB _ _ _ _ k2
   pa := by
    have hp := S.hpa
    have : (αren α ia).take bs.α.length = bs.α := by
     apply List.ext_getElem?
     intro i
     rw [List.getElem?_take]
     split
     ·rename_i hi
      have h2 : bs.α[i]? = some bs.α[i] := List.getElem?_eq_getElem hi
      rw [αren_get (startsB_get sA (by omega)) (get_pre S.pa h2), h2]
     ·rename_i hi
      rw [List.getElem?_eq_none (by omega)]
    rw [← this]
    exact List.take_prefix _ _
   pb := by
    have hp := S.hph
    have : (βren β ih).take bs.β.length = bs.β := by
     apply List.ext_getElem?
     intro i
     rw [List.getElem?_take]
     split
     ·rename_i hi
      have h2 : bs.β[i]? = some bs.β[i] := List.getElem?_eq_getElem hi
      rw [βren_getp (startsB_get sH (by omega)) (get_pre S.pb h2), h2]
     ·rename_i hi
      rw [List.getElem?_eq_none (by omega)]
    rw [← this]
    exact List.take_prefix _ _
   na := fun p j h1 h2 => by
    obtain ⟨i, g1, g2⟩ := αren_inv hlα h1
    have hp := S.hpa
    exact S.na i j g2 (by have := hge p i g1 (by omega); omega)
   nb := fun p b ver n hb => by
    obtain ⟨h0, _, k2⟩ := βren_inv hb
    exact S.nb _ _ _ _ k2
   fa := S.fa
   fb := S.fb
   hpa := S.hpa
   hph := S.hph }
 ·cases h
mutual
def W.as : W T → List Nat
 | .ptr i _ => [i]
 | .fn _ ws => asL ws
 | .ifc _ w => W.as w
 | .agg ws => asL ws
 | .tup ws => asL ws
 | .undef | .bool _ | .int _ _ | .str _ | .nilp | .nilsl | .row _ _ _ | .relem _ _ _ | .own _ _ | .view _ _ _ _ | .oelem _ _ _ _ | .nilm | .map _ | .nilf | .yld _ | .nili => []
def asL : List (W T) → List Nat
 | [] => []
 | w :: ws => W.as w ++ asL ws
end
def addNew (n : Nat) : List Nat → List Nat → List Nat
 | acc, [] => acc
 | acc, x :: l => if (posOf acc x).isSome || !(Nat.blt x n) then addNew n acc l else addNew n (acc ++ [x]) l
def liveAt (wm : WM T) (h : Nat) : Bool := match wm.H[h]? with | some e => e.live | none => false
def entVals : En T → List (W T)
 | .loop _ _ tm _ _ _ _ => tm
 | _ => []
def reach (wm : WM T) : Nat → List Nat → List Nat → List (W T) → List Nat × List Nat
 | 0, ia, ih, _ => (ia, ih)
 | n + 1, ia, ih, ws =>
  let ia' := addNew wm.A.length ia (asL ws)
  let ih' := addNew wm.H.length ih ((hsL ws).filter (liveAt wm))
  if Nat.beq ia'.length ia.length && Nat.beq ih'.length ih.length then (ia, ih) else
  reach wm n ia' ih' ((ia'.drop ia.length).flatMap (fun i => (wm.A[i]?).getD []) ++ (ih'.drop ih.length).flatMap fun h => match wm.H[h]? with | some e => entVals e | none => [])
def tidyW (x : W T × WM T) : Option (W T × WM T) :=
 let ia := List.range x.2.pa
 let ih := List.range x.2.ph
 let r := reach x.2 20 ia ih (x.1 :: (ia.flatMap (fun i => (x.2.A[i]?).getD []) ++ ih.flatMap fun h => match x.2.H[h]? with | some e => entVals e | none => []))
 (pack2 r.1 r.2 ([x.1], x.2)).bind fun y => match y.1 with | [w] => some (w, y.2) | _ => none
theorem tidyW_sound {w w' : W T} (h : tidyW (w, wm) = some (w', wm')) (S : WSim bs C α β wm m) : ∃ α' β', WSim bs C α' β' wm' m ∧ ∀ {v}, Rep C α β w v → Rep C α' β' w' v := by
 unfold tidyW at h
 obtain ⟨⟨ws, wm1⟩, h1, h2⟩ := Option.bind_eq_some_iff.1 h
 simp only at h2
 split at h2
 ·rename_i w1
  injection h2 with h2
  simp only [Prod.mk.injEq] at h2
  obtain ⟨rfl, rfl⟩ := h2
  obtain ⟨S1, r1⟩ := pack2_sound h1 S
  refine ⟨_, _, S1, fun {v} hr => ?_⟩
  exact (RepL.cons_iff.1 (r1 (RepL.cons hr RepL.nil))).1
 ·cases h2
def HeapSaid (cfg : Cfg) (C : Cod T) (f : FuncId) (ws : List (W T)) (wm : WM T) (w : W T) (wm' : WM T) : Prop :=
 ∀ {α β m vs}, WSim ⟨m, α, β⟩ C α β wm m → RepL C α β ws vs → ∃ v m' α' β', callW cfg (.fn f) vs m = some (v, m') ∧ WSim ⟨m, α, β⟩ C α' β' wm' m' ∧ Rep C α' β' w v
def heapWK (cfg : Cfg) (wc : WCfg T) (I : WI T R) (f : FuncId) (ws : List (W T)) (wm : WM T) (k : W T × WM T → Option R) : Option R :=
 bodyWK cfg wc I f ws wm fun x => opK (tidyW x) k
theorem heapWK_sound (ok : CodOk wc.C) (io : IOk cfg wc.C I) {f : FuncId} {ws : List (W T)} {wm : WM T} {k : W T × WM T → Option R} {r : R} (h : heapWK cfg wc I f ws wm k = some r) : ∃ w wm', k (w, wm') = some r ∧ HeapSaid cfg wc.C f ws wm w wm' := by
 unfold heapWK at h
 obtain ⟨w, wm1, h1, h2⟩ := bodyWK_sound ok io h
 obtain ⟨⟨w2, wm2⟩, h3, h4⟩ := opK_some h1
 refine ⟨w2, wm2, h4, fun {α β m vs} S hr => ?_⟩
 obtain ⟨v, m', α1, β1, g1, _, _, g2, g3⟩ := h2 S hr
 obtain ⟨α2, β2, S2, r2⟩ := tidyW_sound h3 g2
 exact ⟨v, m', α2, β2, g1, S2, r2 g3⟩
theorem HeapSaid.out {f : FuncId} {ws : List (W T)} {w w' : W T} (h : HeapSaid cfg C f ws wm w wm') (hw : ∀ {α β v}, Rep C α β w v → Rep C α β w' v) : HeapSaid cfg C f ws wm w' wm' := fun S hr => by
 obtain ⟨v, m', α', β', h1, h2, h3⟩ := h S hr
 exact ⟨v, m', α', β', h1, h2, hw h3⟩
structure Win (T : Nat → Type) where
 ia : List Nat
 ih : List Nat
 ws : List (W T)
 wm : WM T
 big : WM T
def canA (C : Cod T) : List Nat → List (W T) → Option (List (W T))
 | [], [] => some []
 | k :: ks, w :: ws => (canA C ks ws).bind fun l => if Nat.blt k 90 then (inV C k w).map fun x => outV C k x :: l else some (w :: l)
 | _, _ => none
theorem canA_sound (ok : CodOk C) : ∀ {ks : List Nat} {ws ws' : List (W T)}, canA C ks ws = some ws' → ∀ {vs}, RepL C α β ws vs → RepL C α β ws' vs
 | [], [], ws', h, vs, hr => by
  simp only [canA, Option.some.injEq] at h
  subst h
  exact hr
 | k :: ks, w :: ws, ws', h, vs, hr => by
  simp only [canA] at h
  obtain ⟨l, h1, h2⟩ := Option.bind_eq_some_iff.1 h
  simp only [RepL] at hr
  obtain ⟨v, vs', rfl, r1, r2⟩ := hr
  split at h2
  ·obtain ⟨x, h3, rfl⟩ := Option.map_eq_some_iff.1 h2
   exact RepL.cons (outV_rep ok (inV_rep ok h3 r1)) (canA_sound ok h1 r2)
  ·injection h2 with h2
   subst h2
   exact RepL.cons r1 (canA_sound ok h1 r2)
 | [], _ :: _, _, h, _, _ => by simp [canA] at h
 | _ :: _, [], _, h, _, _ => by simp [canA] at h
def softT : Nat → List Nat → List (W T) → List (Nat × Nat)
 | i, k :: ks, w :: ws => (match w with | .nilsl => if Nat.ble 100 k then [(i, k - 100)] else [] | _ => []) ++ softT (i + 1) ks ws
 | _, _, _ => []
def softA (ia : List Nat) (st : WM T) : List (Nat × Nat × Nat) → List (Nat × Nat × Nat)
 | [] => []
 | (p, j, k) :: l =>
  (match ia[p]? with
  | some i => match st.A[i]? with
   | some ws => match ws[j]? with
    | some .nilsl => [(i, j, k)]
    | _ => []
   | none => []
  | none => []) ++ softA ia st l
theorem matT_pre : ∀ {l : List (Nat × Nat)} {st st' : WSt T}, matT l st = some st' → ∀ {bs α β vst}, SSim bs C α β st vst → ∃ β', β <+: β' ∧ SSim bs C α β' st' vst
 | [], st, st', h, bs, α, β, vst, S => by
  simp only [matT, Option.some.injEq] at h
  subst h
  exact ⟨β, List.prefix_refl _, S⟩
 | (t, k) :: l, st, st', h, bs, α, β, vst, S => by
  simp only [matT] at h
  split at h
  ·rename_i ht
   obtain ⟨β', h1, h2⟩ := matT_pre h (β := β ++ [none]) (α := α) (bs := bs) (vst := vst) ⟨by
    obtain ⟨v, h1, h2⟩ := S.tm.get ht
    have := (S.tm.ext (List.prefix_refl α) (pre_app β [none])).set t (w := .own k st.mem.H.length) (v := v) (by
     simp only [Rep] at h2 ⊢
     exact .inl ⟨by rw [← S.mem.lenH]; simp, h2⟩)
    rw [set_self h1] at this
    exact this, S.mem.pushN (by simp only [EnOk]; exact .inl ⟨by simp, by first | rfl | trivial⟩), S.df.ext (List.prefix_refl _) (pre_app _ _), S.rd⟩
   exact ⟨β', (pre_app _ _).trans h1, h2⟩
  ·exact matT_pre h S
  ·cases h
theorem matA_pre : ∀ {l : List (Nat × Nat × Nat)} {st st' : WSt T}, matA l st = some st' → ∀ {bs α β vst}, SSim bs C α β st vst → ∃ β', β <+: β' ∧ SSim bs C α β' st' vst
 | [], st, st', h, bs, α, β, vst, S => by
  simp only [matA, Option.some.injEq] at h
  subst h
  exact ⟨β, List.prefix_refl _, S⟩
 | (i, j, k) :: l, st, st', h, bs, α, β, vst, S => by
  simp only [matA] at h
  split at h
  ·rename_i ws hws
   split at h
   ·rename_i hj
    have S1 := S.mem.pushN (e := .rows k []) (by simp only [EnOk]; exact .inl ⟨by simp, by first | rfl | trivial⟩)
    have S2 := S1.reA (i := i) (ws := ws) (ws' := ws.set j (.own k st.mem.H.length)) hws (fun vs hr => by
     obtain ⟨v, h1, h2⟩ := hr.get hj
     have := hr.set j (w := .own k st.mem.H.length) (v := v) (by
      simp only [Rep] at h2 ⊢
      exact .inl ⟨by rw [← S.mem.lenH]; simp, h2⟩)
     rw [set_self h1] at this
     exact this)
    obtain ⟨β', g1, g2⟩ := matA_pre h (β := β ++ [none]) (vst := vst) ⟨S.tm.ext (List.prefix_refl _) (pre_app _ _), S2, S.df.ext (List.prefix_refl _) (pre_app _ _), S.rd⟩
    exact ⟨β', (pre_app _ _).trans g1, g2⟩
   ·exact matA_pre h S
   ·cases h
  ·cases h
def winW (C : Cod T) (ks : List Nat) (ma : List (Nat × Nat × Nat)) (ws : List (W T)) (wm : WM T) : Option (Win T) :=
 (canA C ks ws).bind fun ws1 =>
 (matT (softT 0 ks ws1) { tm := ws1, mem := wm, df := [], rd := false }).bind fun st1 =>
 (matA (softA (reach st1.mem 20 [] [] st1.tm).1 st1.mem ma) st1).bind fun st2 =>
 let r := reach st2.mem 20 [] [] st2.tm
 if selOk r.1 r.2 st2.mem = true then (renFL (posOf r.1) (posOf r.2) st2.tm).map fun ws2 => ⟨r.1, r.2, ws2, selM r.1 r.2 st2.mem, st2.mem⟩ else none
theorem winW_sound (ok : CodOk C) {ks : List Nat} {ma : List (Nat × Nat × Nat)} {ws : List (W T)} {L : Win T} (h : winW C ks ma ws wm = some L) {vs : List V} (S : WSim bs C α β wm m) (hr : RepL C α β ws vs) :
  ∃ β1, β <+: β1 ∧ WSim bs C α β1 L.big m ∧ selOk L.ia L.ih L.big = true ∧ L.wm = selM L.ia L.ih L.big ∧ RepL C (αren α L.ia) (βren β1 L.ih) L.ws vs := by
 unfold winW at h
 obtain ⟨ws1, h1, h⟩ := Option.bind_eq_some_iff.1 h
 obtain ⟨st1, h2, h⟩ := Option.bind_eq_some_iff.1 h
 obtain ⟨st2, h3, h⟩ := Option.bind_eq_some_iff.1 h
 simp only at h
 split at h
 ·rename_i hs
  obtain ⟨ws2, h4, rfl⟩ := Option.map_eq_some_iff.1 h
  have S0 : SSim bs C α β { tm := ws1, mem := wm, df := [], rd := false } { tm := vs, mem := m, df := [], rd := false } := ⟨canA_sound ok h1 hr, S, DfR.nil, rfl⟩
  obtain ⟨β1, p1, S1⟩ := matT_pre h2 S0
  obtain ⟨β2, p2, S2⟩ := matA_pre h3 S1
  exact ⟨β2, p1.trans p2, S2.mem, hs, rfl, renFL_rep ren_sel h4 S2.tm⟩
 ·cases h
def backW (L : Win T) (x : W T × WM T) : Option (W T × WM T) :=
 if backOk L.ia L.ih x.2 = true then (renF (backF L.ia L.big.A.length) (backF L.ih L.big.H.length) x.1).map fun w => (w, backM L.ia L.ih L.big x.2) else none
theorem heap_call (ok : CodOk C) {ks : List Nat} {ma : List (Nat × Nat × Nat)} {f : FuncId} {ws : List (W T)} {L : Win T} (h : winW C ks ma ws wm = some L) {w w2 : W T} {wl wm2 : WM T}
  (hs : HeapSaid cfg C f L.ws L.wm w wl) (hb : backW L (w, wl) = some (w2, wm2)) : CallSaid C ws wm wm2 w2 (callW cfg (.fn f)) := by
 intro bs α β m vs S hr
 obtain ⟨β1, p1, S1, hsel, e, hr1⟩ := winW_sound ok h S hr
 unfold backW at hb
 simp only at hb
 split at hb
 ·rename_i hbo
  obtain ⟨w3, h3, h4⟩ := Option.map_eq_some_iff.1 hb
  simp only [Prod.mk.injEq] at h4
  obtain ⟨rfl, rfl⟩ := h4
  rw [e] at hs
  obtain ⟨v, m', α', β', g1, g2, g3⟩ := hs (sel_sound hsel S1) hr1
  obtain ⟨k1, k2⟩ := back_sound hsel hbo S1 g2
  exact ⟨v, m', _, _, g1, pre_app _ _, p1.trans (pre_app _ _), k1, renF_rep k2 h3 g3⟩
 ·cases hb
def freshW (k : Nat) (w : W T) (wm : WM T) : Option (W T × WM T) :=
 match w with
 | .own k' h =>
  match wm.H[h]? with
  | some (.rows k2 l) => if Nat.ble wm.ph h = true then (if k' = k then some (.own k' h, wm) else none) else if k' = k ∧ k2 = k ∧ wm.lh ≤ h then some (.own k2 wm.H.length, { wm with H := wm.H.set h .dead ++ [.rows k2 l] }) else none
  | _ => none
 | .nilsl => some (.own k wm.H.length, { wm with H := wm.H ++ [.rows k []] })
 | _ => none
theorem freshW_sound {k : Nat} {w w' : W T} (h : freshW k w wm = some (w', wm')) (S : WSim bs C α β wm m) {v : V} (hr : Rep C α β w v) : ∃ β', β <+: β' ∧ WSim bs C α β' wm' m ∧ Rep C α β' w' v := by
 unfold freshW at h
 split at h
 ·rename_i k' hh
  split at h
  ·rename_i k2 l he
   split at h
   ·split at h
    ·injection h with h
     simp only [Prod.mk.injEq] at h
     obtain ⟨rfl, rfl⟩ := h
     exact ⟨β, List.prefix_refl _, S, hr⟩
    ·cases h
   split at h
   ·rename_i hc
    obtain ⟨rfl, rfl, hlh⟩ := hc
    injection h with h
    simp only [Prod.mk.injEq] at h
    obtain ⟨rfl, rfl⟩ := h
    simp only [Rep] at hr
    have hd : (wm.H.set hh .dead).length = β.length := by simp [S.lenH]
    rcases S.rows he with ⟨hb', rfl⟩ | ⟨b', ver', ccs, hb', hB, hcr⟩
    ·rcases hr with ⟨hb, rfl⟩ | ⟨b, ver, nn, hb, rfl⟩
     ·refine ⟨β ++ [none], pre_app _ _, (S.kill hh).pushN (by simp only [EnOk]; exact .inl ⟨by simp, by first | rfl | trivial⟩), ?_⟩
      simp only [Rep]; exact .inl ⟨by rw [← S.lenH]; simp, by first | rfl | trivial⟩
     ·rw [hb] at hb'; cases hb'
    ·rcases hr with ⟨hb, rfl⟩ | ⟨b, ver, nn, hb, rfl⟩
     ·rw [hb] at hb'; cases hb'
     ·have hb0 := hb
      rw [hb] at hb'
      injection hb' with hb'; injection hb' with hb'
      simp only [Prod.mk.injEq] at hb'
      obtain ⟨rfl, rfl, rfl⟩ := hb'
      refine ⟨β ++ [some (b, ver, l.length)], pre_app _ _, S.renew he rfl hb0 hlh hB ?_, ?_⟩
      ·simp only [EnOk]
       exact .inr ⟨b, ver, ccs, by simp, hB, hcr⟩
      ·simp only [Rep]
       exact .inr ⟨b, ver, l.length, by rw [← S.lenH]; simp, by first | rfl | trivial⟩
   ·cases h
  ·cases h
 ·injection h with h
  simp only [Prod.mk.injEq] at h
  obtain ⟨rfl, rfl⟩ := h
  simp only [Rep] at hr
  refine ⟨β ++ [none], pre_app _ _, S.pushN (by simp only [EnOk]; exact .inl ⟨by simp, by first | rfl | trivial⟩), ?_⟩
  simp only [Rep]; exact .inl ⟨by rw [← S.lenH]; simp, hr⟩
 ·cases h
def canR1 (C : Cod T) (k : Nat) (w : W T) (wm : WM T) : Option (W T × WM T) :=
 if Nat.blt k 90 then (inV C k w).map fun x => (outV C k x, wm) else if Nat.ble 100 k then freshW (k - 100) w wm else some (w, wm)
def canRL (C : Cod T) : List Nat → List (W T) → WM T → Option (List (W T) × WM T)
 | [], [], wm => some ([], wm)
 | k :: ks, w :: ws, wm => (canR1 C k w wm).bind fun x => (canRL C ks ws x.2).map fun y => (x.1 :: y.1, y.2)
 | _, _, _ => none
def canR (C : Cod T) (rs : List Nat) (x : W T × WM T) : Option (W T × WM T) :=
 match rs with
 | [k] => canR1 C k x.1 x.2
 | _ => match x.1 with
  | .tup ws => (canRL C rs ws x.2).map fun y => (.tup y.1, y.2)
  | _ => none
theorem canR1_sound (ok : CodOk C) {k : Nat} {w w' : W T} (h : canR1 C k w wm = some (w', wm')) (S : WSim bs C α β wm m) {v : V} (hr : Rep C α β w v) : ∃ β', β <+: β' ∧ WSim bs C α β' wm' m ∧ Rep C α β' w' v := by
 unfold canR1 at h
 split at h
 ·obtain ⟨x, h3, h4⟩ := Option.map_eq_some_iff.1 h
  simp only [Prod.mk.injEq] at h4
  obtain ⟨rfl, rfl⟩ := h4
  exact ⟨β, List.prefix_refl _, S, outV_rep ok (inV_rep ok h3 hr)⟩
 ·split at h
  ·exact freshW_sound h S hr
  ·injection h with h
   simp only [Prod.mk.injEq] at h
   obtain ⟨rfl, rfl⟩ := h
   exact ⟨β, List.prefix_refl _, S, hr⟩
theorem canRL_sound (ok : CodOk C) : ∀ {ks : List Nat} {ws ws' : List (W T)} {wm wm' : WM T} {β : Bt}, canRL C ks ws wm = some (ws', wm') → WSim bs C α β wm m → ∀ {vs}, RepL C α β ws vs → ∃ β', β <+: β' ∧ WSim bs C α β' wm' m ∧ RepL C α β' ws' vs
 | [], [], ws', wm, wm', β, h, S, vs, hr => by
  simp only [canRL, Option.some.injEq, Prod.mk.injEq] at h
  obtain ⟨rfl, rfl⟩ := h
  exact ⟨β, List.prefix_refl _, S, hr⟩
 | k :: ks, w :: ws, ws', wm, wm', β, h, S, vs, hr => by
  simp only [canRL] at h
  obtain ⟨⟨w1, wm1⟩, h1, h⟩ := Option.bind_eq_some_iff.1 h
  obtain ⟨⟨ws2, wm2⟩, h2, h3⟩ := Option.map_eq_some_iff.1 h
  simp only [Prod.mk.injEq] at h3
  obtain ⟨rfl, rfl⟩ := h3
  simp only [RepL] at hr
  obtain ⟨v, vs', rfl, r1, r2⟩ := hr
  obtain ⟨β1, p1, S1, r1⟩ := canR1_sound ok h1 S r1
  obtain ⟨β2, p2, S2, r2⟩ := canRL_sound ok h2 S1 (r2.ext (List.prefix_refl _) p1)
  exact ⟨β2, p1.trans p2, S2, RepL.cons (r1.ext (List.prefix_refl _) p2) r2⟩
 | [], _ :: _, _, _, _, _, h, _, _, _ => by simp [canRL] at h
 | _ :: _, [], _, _, _, _, h, _, _, _ => by simp [canRL] at h
theorem canR_sound (ok : CodOk C) {rs : List Nat} {w w' : W T} (h : canR C rs (w, wm) = some (w', wm')) (S : WSim bs C α β wm m) {v : V} (hr : Rep C α β w v) : ∃ β', β <+: β' ∧ WSim bs C α β' wm' m ∧ Rep C α β' w' v := by
 unfold canR at h
 split at h
 ·exact canR1_sound ok h S hr
 ·simp only at h
  split at h
  ·obtain ⟨⟨l, wm2⟩, h3, h4⟩ := Option.map_eq_some_iff.1 h
   simp only [Prod.mk.injEq] at h4
   obtain ⟨rfl, rfl⟩ := h4
   simp only [Rep] at hr
   obtain ⟨vs, rfl, hr⟩ := hr
   obtain ⟨β', p, S', hr'⟩ := canRL_sound ok h3 S hr
   exact ⟨β', p, S', by simp only [Rep]; exact ⟨vs, rfl, hr'⟩⟩
  ·cases h
theorem heap_of (ok : CodOk wc.C) (io : IOk cfg wc.C I) {rs : List Nat} {f : FuncId} {ws : List (W T)} {wm : WM T} {k : W T × WM T → Option R} {r : R} (h : (heapWK cfg wc I f ws wm fun x => opK (canR wc.C rs x) k) = some r) :
  ∃ w wm', k (w, wm') = some r ∧ HeapSaid cfg wc.C f ws wm w wm' := by
 obtain ⟨w, wm', h1, h2⟩ := heapWK_sound ok io h
 obtain ⟨⟨w2, wm2⟩, h3, h4⟩ := opK_some h1
 refine ⟨w2, wm2, h4, fun {α β m vs} S hr => ?_⟩
 obtain ⟨v, m', α', β', g1, g2, g3⟩ := h2 S hr
 obtain ⟨β2, _, S2, r2⟩ := canR_sound ok h3 g2 g3
 exact ⟨v, m', α', β2, g1, S2, r2⟩
theorem hand_peel {O : Type} {c c0 : Code} {q : Prep} {st : WSt T} {k : Ex × WSt T → Option R} {r : R} {s : WSt T → WSt T} {L : WSt T → Option O} {E : WSt T → O → Ex × WSt T} {J : Code → WSt T → (Ex × WSt T → Option R) → Option R}
  (h : (opK (prepW q st) fun st' => opK (chk2 c c0 st' (s st')) fun _ => opK (L st') fun o => match (E st' o).1 with | .normal => J c (E st' o).2 k | _ => k (E st' o)) = some r)
  (hs : ∀ st' o, L st' = some o → RoundSaid cfg C c0 (s st') (E st' o))
  (hJ : ∀ {st k r}, J c st k = some r → ∃ x, k x = some r ∧ LoopSaid cfg C (.loop c) st x) : ∃ x, k x = some r ∧ LoopSaid cfg C (.loop c) st x := by
 obtain ⟨st', h1, g1⟩ := opK_some h
 obtain ⟨u, h2, g2⟩ := opK_some g1
 obtain ⟨o, h3, g3⟩ := opK_some g2
 obtain ⟨e, h4⟩ := chk2_some h2
 subst e
 have h5 : RoundSaid cfg C c (s st') (E st' o) := hs st' o h3
 rw [← h4] at h5
 generalize E st' o = x at h5 g3
 obtain ⟨ex, s2⟩ := x
 cases ex with
 | normal =>
  obtain ⟨x, k1, k2⟩ := hJ g3
  exact ⟨x, k1, loop_prep h1 (loop_more h5 k2)⟩
 | exit id => exact ⟨_, g3, loop_prep h1 (loop_end h5 (fun h => by cases h))⟩
 | ret => exact ⟨_, g3, loop_prep h1 (loop_end h5 (fun h => by cases h))⟩
def En.sk2 : En T → List Nat
 | .dead => [0]
 | .rows k _ => [1, k]
 | .map a b _ => [2, a, b]
 | .loop s p tm _ _ _ pt => 3 :: (match s with | .ready => 0 | .busy => 1 | .done => 2 | .exhausted => 3) :: (match p with | none => 0 | some (.exit i) => 2 + i | some _ => 1) :: (pt ++ skL tm)
def skP (ws : List (W T)) (wm : WM T) : Nat := (skL ws ++ wm.A.flatMap skL ++ wm.H.flatMap En.sk2 ++ [wm.la, wm.lh, wm.pa, wm.ph]).foldl (fun a x => (a * 1000003 + x + 1) % 2305843009213693951) 7
open Classical in
noncomputable def chkP (ws ws' : List (W T)) (wm wm' : WM T) : Option Unit := if ws = ws' ∧ wm = wm' then some () else none
theorem chkP_some {ws ws' : List (W T)} {wm wm' : WM T} {u : Unit} (h : chkP ws ws' wm wm' = some u) : ws = ws' ∧ wm = wm' := by
 unfold chkP at h
 split at h
 ·assumption
 ·cases h
theorem chkP_eq (ws : List (W T)) (wm : WM T) : chkP ws ws wm wm = some () := by unfold chkP; rw [if_pos ⟨rfl, rfl⟩]
theorem hand_heap {O : Type} (ok : CodOk C) {f : FuncId} {ks : List Nat} {ma : List (Nat × Nat × Nat)} {ws : List (W T)} {k : W T × WM T → Option R} {r : R} {L : Win T} (hL : winW C ks ma ws wm = some L) {s : List (W T) × WM T} {F : Option O} {E : O → List (W T) × WM T}
  (h : (opK (chkP L.ws s.1 L.wm s.2) fun _ => opK F fun o => match (E o).1 with | [w] => opK (backW L (w, (E o).2)) k | _ => none) = some r)
  (hs : ∀ o w, F = some o → (E o).1 = [w] → HeapSaid cfg C f s.1 s.2 w (E o).2) : ∃ w wm', k (w, wm') = some r ∧ CallSaid C ws wm wm' w (callW cfg (.fn f)) := by
 obtain ⟨u, h2, g2⟩ := opK_some h
 obtain ⟨o, h3, g3⟩ := opK_some g2
 obtain ⟨e1, e2⟩ := chkP_some h2
 split at g3
 ·rename_i w hw
  obtain ⟨⟨w2, wm2⟩, h4, g4⟩ := opK_some g3
  have h5 : HeapSaid cfg C f s.1 s.2 w (E o).2 := hs o w h3 hw
  rw [← e1, ← e2] at h5
  exact ⟨w2, wm2, g4, heap_call ok hL h5 h4⟩
 ·cases g3
def W.toD (C : Cod T) (k : Nat) [Inhabited (T k)] (w : W T) : T k := (inV C k w).getD default
def rfPs : Code → List Tmp | .rangeFunc _ ps _ _ => ps.toList | _ => []
def rfAs : Code → Code | .rangeFunc _ _ a _ => a | _ => .skip
def rfBo : Code → Code | .rangeFunc _ _ _ b => b | _ => .skip
end Go.Proofs.YtpdgbhjhodhkiaaGreatDoor.AI
namespace Go.Proofs.YtpdgbhjhodhkiaaGreatDoor.AI
open Go
section
variable {T : Nat → Type}
mutual
inductive CRg (out : (k : Nat) → T k → List (W T)) : List (W T) → List V → Prop
 | nil : CRg out [] []
 | cons {w v ws vs} : RepG out w v → CRg out ws vs → CRg out (w :: ws) (v :: vs)
inductive RepG (out : (k : Nat) → T k → List (W T)) : W T → V → Prop
 | bool (b) : RepG out (.bool b) (.bool b)
 | int (k n) : RepG out (.int k n) (.int k n)
 | str (s) : RepG out (.str s) (.str ⟨s.toArray⟩)
 | row (k l kc fl) : RowG out k l kc → RepG out (.row k l false) (.ro kc l.length fl)
inductive RowG (out : (k : Nat) → T k → List (W T)) : (k : Nat) → List (T k) → List V → Prop
 | nil (k) : RowG out k [] []
 | cons {k x l c1 c2} : CRg out (out k x) c1 → RowG out k l c2 → RowG out k (x :: l) (c1 ++ c2)
end
variable {out : (k : Nat) → T k → List (W T)}
theorem CRg.inv {w : W T} {ws : List (W T)} {cs : List V} (h : CRg out (w :: ws) cs) : ∃ v vs, cs = v :: vs ∧ RepG out w v ∧ CRg out ws vs := by
 cases h with | cons a b => exact ⟨_, _, rfl, a, b⟩
theorem CRg.inv0 {cs : List V} (h : CRg out [] cs) : cs = [] := by cases h; rfl
theorem RowG.inv {k : Nat} {x : T k} {l : List (T k)} {cs : List V} (h : RowG out k (x :: l) cs) : ∃ c1 c2, cs = c1 ++ c2 ∧ CRg out (out k x) c1 ∧ RowG out k l c2 := by
 cases h with | cons a b => exact ⟨_, _, rfl, a, b⟩
theorem RowG.inv0 {k : Nat} {cs : List V} (h : RowG out k [] cs) : cs = [] := by cases h; rfl
theorem RepG.int_inv {k : IntKind} {n : Int} {v : V} (h : RepG out (.int k n) v) : v = .int k n := by cases h; rfl
theorem RepG.str_inv {s : List UInt8} {v : V} (h : RepG out (.str s) v) : v = .str ⟨s.toArray⟩ := by cases h; rfl
theorem RepG.plain {w : W T} {v : V} (h : RepG out w v) : v.pure = true ∧ V.cellLike v = true := by
 cases h <;> exact ⟨rfl, rfl⟩
theorem CRg.plain : ∀ {ws : List (W T)} {cs : List V}, CRg out ws cs → cs.length = ws.length ∧ pureL cs = true ∧ cs.all V.cellLike = true
 | [], cs, h => by
  rw [h.inv0]
  exact ⟨rfl, rfl, rfl⟩
 | w :: ws, cs, h => by
  obtain ⟨v, vs, rfl, h1, h2⟩ := h.inv
  obtain ⟨a, b⟩ := h1.plain
  obtain ⟨c, d, e⟩ := CRg.plain h2
  refine ⟨by simp [c], by simp only [pureL, a, d, Bool.and_self], by simp only [List.all_cons, b, e, Bool.and_self]⟩
def rdB : W T → Option Bool
 | .bool b => some b
 | _ => none
def rdI (κ : IntKind) : W T → Option Int
 | .int k n => if k = κ then some n else none
 | _ => none
def rdS : W T → Option (List UInt8)
 | .str s => some s
 | _ => none
def rowOf (k : Nat) : W T → Option (List (T k))
 | .row k' l _ => if h : k' = k then some (h ▸ l) else none
 | .nilsl => some []
 | _ => none
def rdU8 : W T → Option UInt8
 | .int .u8 n => if n = (UInt8.ofNat n.toNat).toNat then some (UInt8.ofNat n.toNat) else none
 | _ => none
def Weq (w w' : W T) : Prop := (w = w' ∧ ((∃ b, w' = .bool b) ∨ (∃ k n, w' = .int k n) ∨ ∃ s, w' = .str s)) ∨ (∃ k l fl, w = .row k l fl ∧ w' = .row k l false) ∨ (∃ k, w = .nilsl ∧ w' = .row k [] false)
theorem rdB_w {w : W T} {b : Bool} (h : rdB w = some b) : Weq w (.bool b) := by
 unfold rdB at h
 split at h
 ·injection h with h; subst h; exact .inl ⟨rfl, .inl ⟨_, rfl⟩⟩
 ·cases h
theorem rdI_w {κ : IntKind} {w : W T} {n : Int} (h : rdI κ w = some n) : Weq w (.int κ n) := by
 unfold rdI at h
 split at h
 ·split at h
  ·rename_i e; injection h with h; subst h e; exact .inl ⟨rfl, .inr (.inl ⟨_, _, rfl⟩)⟩
  ·cases h
 ·cases h
theorem rdS_w {w : W T} {s : List UInt8} (h : rdS w = some s) : Weq w (.str s) := by
 unfold rdS at h
 split at h
 ·injection h with h; subst h; exact .inl ⟨rfl, .inr (.inr ⟨_, rfl⟩)⟩
 ·cases h
theorem rdU8_w {w : W T} {b : UInt8} (h : rdU8 w = some b) : Weq w (.int .u8 b.toNat) := by
 unfold rdU8 at h
 split at h
 ·rename_i n
  split at h
  ·rename_i e; injection h with h; subst h
   rw [← e]
   exact .inl ⟨rfl, .inr (.inl ⟨_, _, rfl⟩)⟩
  ·cases h
 ·cases h
theorem rowOf_w {k : Nat} {w : W T} {l : List (T k)} (h : rowOf k w = some l) : Weq w (.row k l false) := by
 unfold rowOf at h
 split at h
 ·rename_i k' l' full
  split at h
  ·rename_i e
   subst e
   injection h with h
   subst h
   exact .inr (.inl ⟨_, _, _, rfl, rfl⟩)
  ·cases h
 ·injection h with h
  subst h
  exact .inr (.inr ⟨_, rfl, rfl⟩)
 ·cases h
def WeqL : List (W T) → List (W T) → Prop
 | [], ws => ws = []
 | w :: ws, us => ∃ u us', us = u :: us' ∧ Weq w u ∧ WeqL ws us'
theorem weqN : WeqL ([] : List (W T)) [] := rfl
theorem weqC {w u : W T} {ws us : List (W T)} (h : Weq w u) (h' : WeqL ws us) : WeqL (w :: ws) (u :: us) := ⟨u, us, rfl, h, h'⟩
variable {C : Cod T}
def Gen (C : Cod T) : Prop := ∀ k x cs, C.CR k x cs ↔ CRg C.out (C.out k x) cs
theorem crl_iff (hC : Gen C) : ∀ {k : Nat} {l : List (T k)} {cs : List V}, CRL C k l cs ↔ RowG C.out k l cs
 | k, [], cs => by
  simp only [CRL]
  exact ⟨fun h => by subst h; exact .nil k, fun h => h.inv0⟩
 | k, x :: l, cs => by
  simp only [CRL]
  constructor
  ·rintro ⟨c1, c2, rfl, h1, h2⟩
   exact .cons ((hC _ _ _).1 h1) ((crl_iff hC).1 h2)
  ·intro h
   obtain ⟨c1, c2, rfl, h1, h2⟩ := h.inv
   exact ⟨c1, c2, rfl, (hC _ _ _).2 h1, (crl_iff hC).2 h2⟩
theorem rep_of (hC : Gen C) {w : W T} {v : V} (h : RepG C.out w v) (α β) : Rep C α β w v := by
 cases h with
 | bool b => simp only [Rep]
 | int k n => simp only [Rep]
 | str s => simp only [Rep]
 | row k l kc fl a =>
  simp only [Rep]
  exact ⟨kc, fl, rfl, (fun e => by cases e), (crl_iff hC).2 a⟩
theorem repL_of (hC : Gen C) (α β) : ∀ {ws : List (W T)} {cs : List V}, CRg C.out ws cs → RepL C α β ws cs
 | [], cs, h => by simp only [RepL]; exact h.inv0
 | w :: ws, cs, h => by
  obtain ⟨v, vs, rfl, h1, h2⟩ := h.inv
  simp only [RepL]
  exact ⟨v, vs, rfl, rep_of hC h1 α β, repL_of hC α β h2⟩
theorem repG_of (hC : Gen C) {w w' : W T} {v : V} {α β} (hw : Weq w w') (h : Rep C α β w v) : RepG C.out w' v := by
 rcases hw with ⟨rfl, ⟨b, rfl⟩ | ⟨k, n, rfl⟩ | ⟨s, rfl⟩⟩ | ⟨k, l, fl, rfl, rfl⟩ | ⟨k, rfl, rfl⟩
 ·simp only [Rep] at h; subst h; exact .bool b
 ·simp only [Rep] at h; subst h; exact .int k n
 ·simp only [Rep] at h; subst h; exact .str s
 ·simp only [Rep] at h
  obtain ⟨cs, fl', rfl, _, h⟩ := h
  exact .row k l cs fl' ((crl_iff hC).1 h)
 ·simp only [Rep] at h
  subst h
  exact .row k [] [] true (.nil k)
theorem crg_of (hC : Gen C) {α β} : ∀ {ws us : List (W T)} {cs : List V}, WeqL ws us → RepL C α β ws cs → CRg C.out us cs
 | [], us, cs, h, hr => by
  simp only [WeqL] at h
  simp only [RepL] at hr
  subst h hr
  exact .nil
 | w :: ws, us, cs, h, hr => by
  simp only [WeqL] at h
  simp only [RepL] at hr
  obtain ⟨u, us', rfl, h1, h2⟩ := h
  obtain ⟨v, vs, rfl, h3, h4⟩ := hr
  exact .cons (repG_of hC h1 h3) (crg_of hC h2 h4)
theorem beq_mk (a b : List UInt8) : ((ByteArray.mk a.toArray) == (ByteArray.mk b.toArray)) = (a == b) := by
 show (a.toArray == b.toArray) = (a == b)
 simp
structure CodG (C : Cod T) : Prop where
 gen : Gen C
 pos : ∀ k, 0 < C.size k
 len : ∀ k x, (C.out k x).length = C.size k
 one : ∀ k, C.isAgg k = false → C.size k = 1
 inn : ∀ k ws x, C.inn k ws = some x → WeqL ws (C.out k x)
 key : ∀ (P : Program) (d : TypeDesc) k x y cx cy, C.kok P d k = true → C.CR k x cx → C.CR k y cy →
  keyEq P d (if C.isAgg k then .agg cx else cx.headD .undef) (if C.isAgg k then .agg cy else cy.headD .undef) = some (C.keq k x y) ∧ keyOk P d (if C.isAgg k then .agg cx else cx.headD .undef) = true
 bytes : ∀ k s l, C.bytes k s = some l → l.length = s.length ∧ CRL C k l (s.map fun b => .int .u8 b.toNat) ∧ C.size k = 1
 unbytes : ∀ k l s cs, C.unbytes k l = some s → CRL C k l cs → u8sOf cs = some (s.map fun b => (b.toNat : Int)) ∧ C.size k = 1
theorem CodG.ok (G : CodG C) : CodOk C where
 pos := G.pos
 len := fun k x cs h => by
  have h := (G.gen k x cs).1 h
  rw [h.plain.1, G.len k x]
 pure := fun k x cs h => ((G.gen k x cs).1 h).plain.2.1
 cell := fun k x cs h => ((G.gen k x cs).1 h).plain.2.2
 one := G.one
 out := fun k x cs h α β => repL_of G.gen α β ((G.gen k x cs).1 h)
 inn := fun k ws x h α β cs hr => (G.gen k x cs).2 (crg_of G.gen (G.inn k ws x h) hr)
 key := G.key
 bytes := G.bytes
 unbytes := G.unbytes
end
end Go.Proofs.YtpdgbhjhodhkiaaGreatDoor.AI
