/- Typed values: what a call leaves; walking into calls; rounds of a range over a function. -/
import Derived.Test.YtpdgbhjhodhkiaaGreatDoorW9
set_option linter.unnecessarySimpa false
set_option linter.unusedVariables false
set_option linter.unusedSimpArgs false
namespace Go.Proofs.YtpdgbhjhodhkiaaGreatDoor.AI
open Go
variable {T : Nat → Type} {C : Cod T} {R : Type} {P : Program} {cfg : Cfg} {wc : WCfg T} {I : WI T R}
variable {bs : Base} {α α' : List Nat} {β β' : Bt} {wm wm' : WM T} {m m' : Mem}

def runDfK (wc : WCfg T) (P : Program) : List (TypeId × W T × W T) → WM T → (WM T → Option R) → Option R
  | [], wm, k => k wm
  | (t, x, key) :: ds, wm, k => delWK wc P wm t x key fun wm' => runDfK wc P ds wm' k
theorem runDfK_sound (ok : CodOk wc.C) : ∀ {ds : List (TypeId × W T × W T)} {wm : WM T} {k : WM T → Option R} {r : R}, runDfK wc P ds wm k = some r →
    ∃ wm', k wm' = some r ∧ ∀ {bs α β m vds}, WSim bs wc.C α β wm m → DfR wc.C α β ds vds → ∃ m', runDf P vds m = some m' ∧ WSim bs wc.C α β wm' m'
  | [], wm, k, r, h => ⟨wm, h, fun {bs α β m vds} S hd => by cases hd; exact ⟨m, rfl, S⟩⟩
  | (t, x, key) :: ds, wm, k, r, h => by
    simp only [runDfK] at h
    obtain ⟨wm1, h1, h2⟩ := delWK_sound ok h
    obtain ⟨wm2, h3, h4⟩ := runDfK_sound ok h1
    refine ⟨wm2, h3, fun S hd => ?_⟩
    cases hd with
    | cons r1 r2 hd =>
      obtain ⟨m1, h5, S1⟩ := h2 S r1 r2
      obtain ⟨m2, h6, S2⟩ := h4 S1 hd
      exact ⟨m2, by simp only [runDf, h5, Option.bind_some, h6], S2⟩
def resultsWK (C : Cod T) (P : Program) (wm : WM T) (tm : List (W T)) : List ResultVar → (List (W T) → Option R) → Option R
  | [], k => k []
  | .tmp t :: rs, k => resultsWK C P wm tm rs fun ws => k (tm.getD t .undef :: ws)
  | .cell a t :: rs, k => loadWK C P wm t (tm.getD a .undef) fun w => resultsWK C P wm tm rs fun ws => k (w :: ws)
theorem resultsWK_sound (ok : CodOk C) {wm : WM T} {tm : List (W T)} : ∀ {rs : List ResultVar} {k : List (W T) → Option R} {r : R}, resultsWK C P wm tm rs k = some r →
    ∃ ws, k ws = some r ∧ ∀ {bs α β m vtm}, WSim bs C α β wm m → RepL C α β tm vtm → ∃ vs, resultsV P m vtm rs = some vs ∧ RepL C α β ws vs
  | [], k, r, h => ⟨[], h, fun {bs α β m vtm} S ht => ⟨[], rfl, RepL.nil⟩⟩
  | .tmp t :: rs, k, r, h => by
    simp only [resultsWK] at h
    obtain ⟨ws, h1, h2⟩ := resultsWK_sound ok h
    refine ⟨_, h1, fun {bs α β m vtm} S ht => ?_⟩
    obtain ⟨vs, h3, h4⟩ := h2 S ht
    exact ⟨vtm.getD t .undef :: vs, by simp only [resultsV, h3], RepL.cons (rep_getD ht t) h4⟩
  | .cell a t :: rs, k, r, h => by
    simp only [resultsWK] at h
    obtain ⟨w, h1, h2⟩ := loadWK_sound ok h
    obtain ⟨ws, h3, h4⟩ := resultsWK_sound ok h1
    refine ⟨_, h3, fun {bs α β m vtm} S ht => ?_⟩
    obtain ⟨v, h5, h6⟩ := h2 S (rep_getD ht a)
    obtain ⟨vs, h7, h8⟩ := h4 S ht
    exact ⟨v :: vs, by simp only [resultsV, h5, h7], RepL.cons h6 h8⟩
def tupW : List (W T) → W T
  | [w] => w
  | ws => .tup ws
theorem tupW_rep {ws : List (W T)} {vs : List V} (h : RepL C α β ws vs) : Rep C α β (tupW ws) (tupV vs) := by
  have hl := h.length
  match ws, vs, hl with
  | [], [], _ => simp only [tupW, tupV, Rep]; exact ⟨_, rfl, h⟩
  | [w], [v], _ => exact (RepL.cons_iff.1 h).1
  | _ :: _ :: _, _ :: _ :: _, _ => simp only [tupW, tupV, Rep]; exact ⟨_, rfl, h⟩
def leaveWK (wc : WCfg T) (P : Program) (fn : Func) (na : Nat) (x : Ex × WSt T) (k : W T × WM T → Option R) : Option R :=
  match x.1 with
  | .exit _ => none
  | _ => runDfK wc P x.2.df x.2.mem fun wm => resultsWK wc.C P wm x.2.tm fn.results.toList fun ws =>
    if ((wm.A.take na).all (lowL na) && wm.H.all (En.low na)) = true then
      (if W.low na (tupW ws) = true then k (tupW ws, { wm with A := wm.A.take na }) else k (tupW ws, wm))
    else none
theorem take_pre {X : Type} {l l' : List X} (h : l <+: l') : l'.take l.length = l := by
  obtain ⟨r, rfl⟩ := h; simp
theorem leaveWK_sound (ok : CodOk wc.C) {fn : Func} {na : Nat} {x : Ex × WSt T} {k : W T × WM T → Option R} {r : R} (h : leaveWK wc P fn na x k = some r) :
    ∃ w wm', k (w, wm') = some r ∧ ∀ {bs α β vst}, bs.α.length = na → SSim bs wc.C α β x.2 vst → ∃ v m' α', leaveV P fn bs.m.A.length (x.1, vst) = some (v, m') ∧ WSim bs wc.C α' β wm' m' ∧ Rep wc.C α' β w v := by
  unfold leaveWK at h
  obtain ⟨e, st⟩ := x
  have main : (runDfK wc P st.df st.mem fun wm => resultsWK wc.C P wm st.tm fn.results.toList fun ws =>
    if ((wm.A.take na).all (lowL na) && wm.H.all (En.low na)) = true then
      (if W.low na (tupW ws) = true then k (tupW ws, { wm with A := wm.A.take na }) else k (tupW ws, wm))
    else none) = some r → (∀ id, e ≠ .exit id) → ∃ w wm', k (w, wm') = some r ∧ ∀ {bs α β vst}, bs.α.length = na → SSim bs wc.C α β st vst → ∃ v m' α', leaveV P fn bs.m.A.length (e, vst) = some (v, m') ∧ WSim bs wc.C α' β wm' m' ∧ Rep wc.C α' β w v := by
    intro h hne
    obtain ⟨wm1, h1, h2⟩ := runDfK_sound ok h
    obtain ⟨ws, h3, h4⟩ := resultsWK_sound ok h1
    split at h3
    · rename_i hlow
      simp only [Bool.and_eq_true] at hlow
      have lv : ∀ {n vst m1 vs}, runDf P vst.df vst.mem = some m1 → resultsV P m1 vst.tm fn.results.toList = some vs → leaveV P fn n (e, vst) = some (tupV vs, truncA n (tupV vs) m1) := by
        intro n vst m1 vs g1 g2
        cases e with
        | exit id => exact absurd rfl (hne id)
        | normal => simp only [leaveV, g1, Option.bind_some, g2, Option.map_some]
        | ret => simp only [leaveV, g1, Option.bind_some, g2, Option.map_some]
      split at h3
      · rename_i hw
        refine ⟨_, _, h3, fun {bs α β vst} hna S => ?_⟩
        obtain ⟨m1, g1, S1⟩ := h2 S.mem S.df
        obtain ⟨vs, g2, hr⟩ := h4 S1 S.tm
        have S2 := S1.dropA (n := na) (by rw [← S1.hpa, hna]; exact Nat.le_refl _) hlow.1 hlow.2
        have ht : α.take na = bs.α := by rw [← hna]; exact take_pre S1.pa
        have hr' := (tupW_rep hr).low hw
        refine ⟨_, _, α.take na, lv g1 g2, ?_, hr'⟩
        unfold truncA
        split
        · rename_i hc
          refine S2.truncA (Nat.le_refl _) (fun i j hij => ?_) hc.2.2
          rw [ht] at hij
          exact S1.bα i j hij
        · exact S2
      · rename_i hw
        refine ⟨_, _, h3, fun {bs α β vst} hna S => ?_⟩
        obtain ⟨m1, g1, S1⟩ := h2 S.mem S.df
        obtain ⟨vs, g2, hr⟩ := h4 S1 S.tm
        have hr' := tupW_rep hr
        have hhi := hr'.high (n := na) (nv := bs.m.A.length) (fun i j h1 h2 => S1.na i j h1 (by omega)) (by simpa using hw)
        refine ⟨_, _, α, lv g1 g2, ?_, hr'⟩
        unfold truncA
        rw [if_neg (by intro hc; omega)]
        exact S1
    · cases h3
  cases e with
  | exit id => cases h
  | normal => exact main h (fun id he => by cases he)
  | ret => exact main h (fun id he => by cases he)

/-! ### Walking into a call -/
def enterW (fn : Func) (args : List (W T)) (wm : WM T) : WSt T := { tm := args ++ List.replicate (fn.ntmps - args.length) (.tup []), mem := wm, df := [], rd := false }
def inW (wm : WM T) : WM T := { wm with pa := wm.A.length, ph := wm.H.length }
def outW (wm wm' : WM T) : WM T := { wm' with pa := wm.pa, ph := wm.ph }
def bodyWK (cfg : Cfg) (wc : WCfg T) (I : WI T R) (f : FuncId) (ws : List (W T)) (wm : WM T) (k : W T × WM T → Option R) : Option R :=
  match cfg.P.funcs[f]? with
  | some fn =>
    match fn.body with
    | some c => if cfg.ok f = true then execWK cfg wc I c [f] (enterW fn ws (inW wm)) fun x => leaveWK wc cfg.P fn wm.A.length x fun (w, wm') => k (w, outW wm wm') else none
    | none => none
  | none => none
theorem enterW_sound {fn : Func} {ws : List (W T)} {vs : List V} (S : WSim bs C α β wm m) (h : RepL C α β ws vs) : SSim ⟨m, α, β⟩ C α β (enterW fn ws (inW wm)) (enterSt fn vs m) := by
  refine ⟨?_, S.within, DfR.nil, rfl⟩
  simp only [enterW, enterSt]
  rw [h.length]
  exact h.append (RepL.replicate _ rep_unit)
theorem bodyWK_sound (ok : CodOk wc.C) (io : IOk cfg wc.C I) {f : FuncId} {ws : List (W T)} {wm : WM T} {k : W T × WM T → Option R} {r : R} (h : bodyWK cfg wc I f ws wm k = some r) :
    ∃ w wm', k (w, wm') = some r ∧ CallSaid wc.C ws wm wm' w (callW cfg (.fn f)) := by
  unfold bodyWK at h
  split at h
  · rename_i fn hf
    split at h
    · rename_i c hb
      split at h
      · rename_i hok
        obtain ⟨x, h1, h2⟩ := execWK_sound ok io c [f] h
        obtain ⟨w, wm', h3, h4⟩ := leaveWK_sound ok h1
        refine ⟨w, _, h3, fun {bs α β m vs} S hr => ?_⟩
        obtain ⟨vx, α1, β1, h5, h6, S1⟩ := h2 (enterW_sound (fn := fn) S hr)
        obtain ⟨v, m', α2, h7, S2, hr2⟩ := h4 (bs := ⟨m, α, β⟩) S.lenA S1
        refine ⟨v, m', α2, β1, ?_, S2.pa, S2.pb, S.back S2, hr2⟩
        rw [callW_fn hf hb hok, h5, Option.bind_some]
        exact h7
      · cases h
    · cases h
  · cases h

/-! ### A round of a range over a function -/
def setManyW : List (W T) → List Tmp → List (W T) → List (W T)
  | tm, t :: ts, a :: as => setManyW (tm.set t a) ts as
  | tm, _, _ => tm
theorem setManyW_rep : ∀ {ps : List Tmp} {tm ws : List (W T)} {vtm vs : List V}, RepL C α β tm vtm → RepL C α β ws vs → RepL C α β (setManyW tm ps ws) (setMany vtm ps vs)
  | [], tm, ws, vtm, vs, h, hr => by simp only [setManyW, setMany]; exact h
  | t :: ps, tm, [], vtm, vs, h, hr => by simp only [RepL] at hr; subst hr; simp only [setManyW, setMany]; exact h
  | t :: ps, tm, w :: ws, vtm, vs, h, hr => by
    simp only [RepL] at hr
    obtain ⟨v, vs', rfl, h1, h2⟩ := hr
    simp only [setManyW, setMany]
    exact setManyW_rep (h.set t h1) h2
def endRoundWK (na h : Nat) (x : Ex × WSt T) (k : W T × WM T → Option R) : Option R :=
  match x.2.mem.H[h]? with
  | some (.loop _ _ tm ps as bo pt) =>
    if x.2.mem.lh ≤ h ∧ (x.2.mem.A.take na).all (lowL na) = true ∧ x.2.mem.H.all (En.low na) = true then
      match x.1 with
      | .normal => k (.bool true, { x.2.mem with A := x.2.mem.A.take na, H := x.2.mem.H.set h (.loop .ready none tm ps as bo pt) })
      | .ret => k (.bool false, { x.2.mem with A := x.2.mem.A.take na, H := x.2.mem.H.set h (.loop .done (some .ret) tm ps as bo pt) })
      | .exit id => k (.bool false, { x.2.mem with A := x.2.mem.A.take na, H := x.2.mem.H.set h (.loop .done (some (.exit id)) tm ps as bo pt) })
    else none
  | _ => none
def yldWK (cfg : Cfg) (wc : WCfg T) (I : WI T R) (h : Nat) (ws : List (W T)) (wm : WM T) (k : W T × WM T → Option R) : Option R :=
  match wm.H[h]? with
  | some (.loop .ready _ tm ps as bo pt) =>
    if ps.length = ws.length ∧ wm.lh ≤ h then
      execWK cfg wc I as (2 :: pt) { tm := setManyW tm ps ws, mem := inW wm, df := [], rd := true } fun x =>
        match x with
        | (.normal, st1) =>
          match st1.mem.H[h]? with
          | some (.loop .ready pend' tm' ps' as' bo' pt') =>
            if st1.mem.lh ≤ h then
              execWK cfg wc I bo (3 :: pt) { st1 with mem := { st1.mem with H := st1.mem.H.set h (.loop .busy pend' tm' ps' as' bo' pt') } } fun y => endRoundWK wm.A.length h y fun (w, wm') => k (w, outW wm wm')
            else none
          | _ => none
        | _ => none
    else none
  | _ => none
theorem endRoundWK_sound {na h : Nat} {x : Ex × WSt T} {k : W T × WM T → Option R} {r : R} (hk : endRoundWK na h x k = some r) :
    ∃ w wm', k (w, wm') = some r ∧ ∀ {bs α β vst b ver n}, bs.α.length = na → β[h]? = some (some (b, ver, n)) → SSim bs C α β x.2 vst →
      ∃ v m' α', endRoundV bs.m.A.length b (x.1, vst) = some (v, m') ∧ WSim bs C α' β wm' m' ∧ Rep C α' β w v := by
  unfold endRoundWK at hk
  split at hk
  · rename_i s0 p0 tm ps as bo pt he
    split at hk
    · rename_i hc
      obtain ⟨hlh, hA, hH⟩ := hc
      obtain ⟨e, st⟩ := x
      simp only at he hlh hA hH hk
      have fin : ∀ (bb : Bool) (s : LoopState) (pe : Option Code), (∀ {n l : Nat} {vst : St} {tm' : List V} {s1 : LoopState} {p1 : Option Code}, vst.mem.B[l]? = some (.loop s1 p1 tm' ps as bo) → vst.mem.lb ≤ l → endRoundV n l (e, vst) = some (.bool bb, truncA n (.bool bb) { vst.mem with B := vst.mem.B.set l (.loop s pe tm' ps as bo) })) →
          k (.bool bb, { st.mem with A := st.mem.A.take na, H := st.mem.H.set h (.loop s pe tm ps as bo pt) }) = some r →
          ∃ w wm', k (w, wm') = some r ∧ ∀ {bs α β vst b ver n}, bs.α.length = na → β[h]? = some (some (b, ver, n)) → SSim bs C α β st vst →
            ∃ v m' α', endRoundV bs.m.A.length b (e, vst) = some (v, m') ∧ WSim bs C α' β wm' m' ∧ Rep C α' β w v := by
        intro bb s pe hend hk
        refine ⟨_, _, hk, fun {bs α β vst b ver n} hna hb S => ?_⟩
        have hE := S.mem.H _ _ he
        simp only [EnOk] at hE
        obtain ⟨b', ver', n', tm', hb', hB, htm⟩ := hE
        rw [hb] at hb'
        injection hb' with hb'; injection hb' with hb'
        simp only [Prod.mk.injEq] at hb'
        obtain ⟨rfl, rfl, rfl⟩ := hb'
        have hlb := S.mem.lb _ _ _ _ _ he rfl hb hlh
        have hlow : lowL na tm = true := by
          have := List.all_eq_true.1 hH _ (List.mem_of_getElem? he)
          exact this
        have S1 := S.mem.setB (hi' := vst.mem.hi) he rfl hb (e' := .loop s pe tm ps as bo pt) (bb := .loop s pe tm' ps as bo) (by
          simp only [EnOk]
          exact ⟨_, ver, n, tm', hb, by simp [S.mem.ltB _ _ _ _ hb], htm⟩)
        have S2 := S1.dropA (n := na) (by simp only; rw [← S.mem.hpa, hna]; exact Nat.le_refl _) hA (by
          rw [List.all_eq_true]
          intro y hy
          rcases List.mem_or_eq_of_mem_set hy with hy | rfl
          · exact List.all_eq_true.1 hH y hy
          · exact hlow)
        have ht : α.take na = bs.α := by rw [← hna]; exact take_pre S.mem.pa
        refine ⟨_, _, α.take na, hend hB hlb, ?_, by simp only [Rep]⟩
        unfold truncA
        split
        · rename_i hc
          refine S2.truncA (Nat.le_refl _) (fun i j hij => ?_) hc.2.2
          rw [ht] at hij
          exact S.mem.bα i j hij
        · exact S2
      cases e with
      | normal => exact fin true .ready none (fun hB hlb => by simp only [endRoundV, hB]; rw [if_pos hlb]) hk
      | ret => exact fin false .done (some .ret) (fun hB hlb => by simp only [endRoundV, hB]; rw [if_pos hlb]) hk
      | exit id => exact fin false .done (some (.exit id)) (fun hB hlb => by simp only [endRoundV, hB]; rw [if_pos hlb]) hk
    · cases hk
  · cases hk
theorem callW_yld {l : Nat} {args : List V} {m : Mem} {pe : Option Code} {tm : List V} {ps : List Tmp} {as bo : Code} (h : m.B[l]? = some (.loop .ready pe tm ps as bo)) (hc : ps.length = args.length ∧ m.lb ≤ l)
    {st1 : St} (h1 : exec cfg (callW cfg) loopW as { tm := setMany tm ps args, mem := m, df := [], rd := true } = some (.normal, st1))
    {pe' : Option Code} {tm' : List V} {ps' : List Tmp} {as' bo' : Code} (h2 : st1.mem.B[l]? = some (.loop .ready pe' tm' ps' as' bo'))
    {x : Ex × St} (h3 : exec cfg (callW cfg) loopW bo { st1 with mem := { st1.mem with B := st1.mem.B.set l (.loop .busy pe' tm' ps' as' bo') } } = some x) {y : V × Mem} (h4 : endRoundV m.A.length l x = some y) :
    callW cfg (.yld l) args m = some y := by
  obtain ⟨n1, k1⟩ := exec_cont _ _ _ h1
  obtain ⟨n2, k2⟩ := exec_cont _ _ _ h3
  have e1 := execN_le (Nat.le_max_left n1 n2) _ _ _ k1
  have e2 := execN_le (Nat.le_max_right n1 n2) _ _ _ k2
  refine callW_of (n := max n1 n2 + 1) ?_
  rw [callN_succ]
  simp only [callF, h]
  rw [if_pos hc]
  simp only [execN] at e1 e2
  rw [e1]
  simp only [h2, e2, Option.bind_some]
  exact h4
theorem yldWK_sound (ok : CodOk wc.C) (io : IOk cfg wc.C I) {h : Nat} {ws : List (W T)} {wm : WM T} {k : W T × WM T → Option R} {r : R} (hk : yldWK cfg wc I h ws wm k = some r) :
    ∃ w wm', k (w, wm') = some r ∧ ∀ {bs α β m vs b ver n}, WSim bs wc.C α β wm m → β[h]? = some (some (b, ver, n)) → RepL wc.C α β ws vs → Goes wc.C wm wm' w bs α β (callW cfg (.yld b) vs m) := by
  unfold yldWK at hk
  split at hk
  · rename_i p0 tm ps as bo pt he
    split at hk
    · rename_i hc
      obtain ⟨x, h1, h2⟩ := execWK_sound ok io as _ hk
      split at h1
      · rename_i st1
        split at h1
        · rename_i pend' tm' ps' as' bo' pt' he'
          split at h1
          · rename_i hlh'
            obtain ⟨y, h3, h4⟩ := execWK_sound ok io bo _ h1
            obtain ⟨w, wm', h5, h6⟩ := endRoundWK_sound (C := wc.C) h3
            refine ⟨w, _, h5, fun {bs α β m vs b ver n} S hb hr => ?_⟩
            have hE := S.H _ _ he
            simp only [EnOk] at hE
            obtain ⟨b1, ver1, n1, vtm, hb1, hB, htm⟩ := hE
            rw [hb] at hb1
            injection hb1 with hb1; injection hb1 with hb1
            simp only [Prod.mk.injEq] at hb1
            obtain ⟨rfl, rfl, rfl⟩ := hb1
            have hlb := S.lb _ _ _ _ _ he rfl hb hc.2
            have S0 : SSim ⟨m, α, β⟩ wc.C α β { tm := setManyW tm ps ws, mem := inW wm, df := [], rd := true } { tm := setMany vtm ps vs, mem := m, df := [], rd := true } := ⟨setManyW_rep htm hr, S.within, DfR.nil, rfl⟩
            obtain ⟨vst1, α1, β1, g1, g2, S1⟩ := h2 S0
            have hbp : β1[h]? = some (some (b, ver, n)) := get_pre S1.mem.pb hb
            have hE := S1.mem.H _ _ he'
            simp only [EnOk] at hE
            obtain ⟨b2, ver2, n2, vtm', hb2, hB2, htm'⟩ := hE
            rw [hbp] at hb2
            injection hb2 with hb2; injection hb2 with hb2
            simp only [Prod.mk.injEq] at hb2
            obtain ⟨rfl, rfl, rfl⟩ := hb2
            have S2 := S1.mem.setB (hi' := vst1.mem.hi) he' rfl hbp (e' := .loop .busy pend' tm' ps' as' bo' pt') (bb := .loop .busy pend' vtm' ps' as' bo') (by
              simp only [EnOk]
              exact ⟨_, ver, n, vtm', hbp, by simp [S1.mem.ltB _ _ _ _ hbp], htm'⟩)
            have S3 : SSim ⟨m, α, β⟩ wc.C α1 β1 { st1 with mem := { st1.mem with H := st1.mem.H.set h (.loop .busy pend' tm' ps' as' bo' pt') } } { vst1 with mem := { vst1.mem with B := vst1.mem.B.set b (.loop .busy pend' vtm' ps' as' bo') } } := ⟨S1.tm, S2, S1.df, S1.rd⟩
            obtain ⟨vst2, α2, β2, g3, g4, S4⟩ := h4 S3
            have hbp2 : β2[h]? = some (some (b, ver, n)) := get_pre S4.mem.pb hb
            obtain ⟨v, m', α3, g5, S5, hr5⟩ := h6 (bs := ⟨m, α, β⟩) S.lenA hbp2 S4
            refine ⟨v, m', α3, β2, callW_yld hB ⟨by rw [← hr.length]; exact hc.1, hlb⟩ g1 hB2 g3 g5, S5.pa, S5.pb, S.back S5, hr5⟩
          · cases h1
        · cases h1
      · cases h1
    · cases hk
  · cases hk
end Go.Proofs.YtpdgbhjhodhkiaaGreatDoor.AI
