/- Regions that draw their order: any order that the edges allow ends as the textual one does. -/
import Derived.Test.YtpdgbhjhodhkiaaGreatDoorS15
set_option linter.unusedVariables false
set_option linter.unusedSimpArgs false
namespace Go.Proofs.YtpdgbhjhodhkiaaGreatDoor.AI
open Go
variable {kp : Kp}

section
variable {cfg : Cfg} {call : Call} {ops : Array Oper}

theorem evalO_set {tm : List V} {d : Tmp} {x : V} {o : Operand} (h : o ≠ .tmp d) : evalO (tm.set d x) o = evalO tm o := by
  cases o with
  | tmp t =>
    have ht : d ≠ t := fun e => h (by rw [e])
    simp [evalO, List.getElem?_set_ne ht]
  | const _ => rfl
  | func _ => rfl
  | global _ => rfl
theorem evalO_putV {tm : List V} {d : Option Tmp} {x : V} {o : Operand} (h : ∀ t, d = some t → o ≠ .tmp t) : evalO (putV tm d x) o = evalO tm o := by
  cases d with
  | none => rfl
  | some d => exact evalO_set (h d rfl)

theorem pairs_congr {ρ ρ' : Operand → V} {ps : Array (Nat × Operand)} (h : ∀ x ∈ ps.toList.map (·.2), ρ x = ρ' x) :
    (ps.toList.map fun (i, x) => (i, ρ x)) = ps.toList.map fun (i, x) => (i, ρ' x) :=
  List.map_congr_left fun p hm => by
    obtain ⟨i, x⟩ := p
    simp only [h x (List.mem_map.2 ⟨(i, x), hm, rfl⟩)]
theorem opt_congr {ρ ρ' : Operand → V} {x : Option Operand} (h : ∀ y ∈ x.toArray, ρ y = ρ' y) : x.map ρ = x.map ρ' := by
  cases x with
  | none => rfl
  | some y => simp [h y (by simp)]

theorem opV_congr {P : Program} {m : Mem} {slot : Nat} {ρ ρ' : Operand → V} (op : Op) (h : ∀ x ∈ op.operands, ρ x = ρ' x) : opV P m slot ρ op = opV P m slot ρ' op := by
  cases op <;> simp only [Op.operands] at h
  case build t ps => simp only [opV, pairs_congr (fun x hx => h x (by simpa using hx))]
  case buildSlice t n ps => simp only [opV, pairs_congr (fun x hx => h x (by simpa using hx))]
  case makeFunc fn first captured =>
    cases fn <;> simp only [opV]
    rw [List.map_congr_left (l := captured.toList) fun x hx => h x (by simp at hx; simp [hx])]
  case makeMap t r => cases r <;> rfl
  case slice t x lo hi mx =>
    simp only [opV]
    rw [h x (by simp), opt_congr (x := lo) fun y hy => h y (by simp [hy]), opt_congr (x := hi) fun y hy => h y (by simp [hy]), opt_congr (x := mx) fun y hy => h y (by simp [hy])]
  all_goals (first | rfl | (simp_all [opV]; done))

theorem callV_congr {draw : Bool} {m : Mem} {ρ ρ' : Operand → V} (c : Go.Call) (h : ∀ x ∈ c.operands, ρ x = ρ' x) : callV cfg call draw ρ m c = callV cfg call draw ρ' m c := by
  have ha : c.args.toList.map ρ = c.args.toList.map ρ' := List.map_congr_left fun x hx => h x (by simp at hx; simp [Call.operands, hx])
  unfold callV
  cases hc : c.callee with
  | builtin b => simp only [ha]
  | value f => simp only [ha, h f (by simp [Call.operands, hc])]
  | invoke r k => rfl

/-- One operation whose guard and operands' values are known. -/
def stepCore (cfg : Cfg) (call : Call) (slot : Nat) (o : Oper) (g : Option Bool) (ρ : Operand → V) (m : Mem) : Option (V × Mem) :=
  match g with
  | none => none
  | some false => some (.tup [], m)
  | some true =>
    match o.op with
    | .call c => callV cfg call true ρ m c
    | op => opQ cfg.P true m slot ρ op

theorem stepAt_draw {base i : Nat} {o : Oper} {st : St} (hi : ops[i]? = some o) :
    stepAt cfg call true ops base i st = (stepCore cfg call (base + slotOf ops i) o (guardV ops st.tm o) (evalO st.tm) st.mem).map fun (v, m) => { st with tm := putV st.tm o.dst v, mem := m } := by
  unfold stepAt stepCore
  simp only [hi]
  cases hg : guardV ops st.tm o with
  | none => rfl
  | some b =>
    cases b
    · rfl
    · simp only
      cases hop : o.op <;> try rfl
      case defer c =>
        obtain ⟨callee, args, argTypes⟩ := c
        simp only [opQ, opV, Option.map_none]
        split
        · rename_i h
          cases h
        · split
          · simp
          · rfl
        · simp [opQ, opV]
/-! ### What does not write keeps the memory; what does not look is the same at any memory -/
theorem opQ_congr {P : Program} {m : Mem} {slot : Nat} {ρ ρ' : Operand → V} (op : Op) (h : ∀ x ∈ op.operands, ρ x = ρ' x) : opQ P true m slot ρ op = opQ P true m slot ρ' op := by
  unfold opQ
  split
  · simp only [Op.operands] at h
    rw [pairs_congr (fun x hx => h x (by simpa using hx))]
  · exact opV_congr _ h
theorem opQ_keeps {P : Program} {m m' : Mem} {slot : Nat} {ρ : Operand → V} {op : Op} {v : V} (hc : clsOf op ≠ .writes) (h : opQ P true m slot ρ op = some (v, m')) : m' = m := by
  have hm : ∀ {x : Option V}, x.map (·, m) = some (v, m') → m' = m := by
    intro x hx
    cases x with
    | none => cases hx
    | some y => simp at hx; exact hx.2.symm
  cases op
  case buildSlice t len ps =>
    simp only [opQ] at h
    split at h
    · split at h
      · simp at h
        exact h.2.symm
      · cases h
    · cases h
  case makeFunc fn first captured =>
    cases fn <;> simp only [opQ, opV] at h <;> first | (cases h; done) | skip
    split at h
    · simp at h; exact h.2.symm
    · cases h
  all_goals first | (exact absurd rfl hc) | (simp only [opQ, opV] at h) <;> first | exact hm h | (simp at h; try exact h.2.symm) | skip
  all_goals (repeat' split at h) <;> first | (cases h; done) | (simp at h; exact h.2.symm) | (exact hm h)
theorem opQ_any {P : Program} {m m' : Mem} {slot : Nat} {ρ : Operand → V} {op : Op} (hc : clsOf op = .pure) : opQ P true m' slot ρ op = (opQ P true m slot ρ op).map fun (v, _) => (v, m') := by
  have hm : ∀ {x : Option V}, x.map (·, m') = (x.map (·, m)).map fun (v, _) => (v, m') := by
    intro x
    cases x <;> rfl
  cases op
  case buildSlice t len ps =>
    simp only [opQ]
    split
    · split <;> rfl
    · rfl
  case makeFunc fn first captured =>
    cases fn <;> simp only [opQ, opV] <;> first | rfl | skip
    split <;> rfl
  all_goals first | (cases hc; done) | (simp only [opQ, opV]) <;> first | exact hm | rfl | skip
  all_goals (repeat' split) <;> first | rfl | exact hm | skip
theorem callV_keeps {m m' : Mem} {ρ : Operand → V} {c : Go.Call} {v : V} (hc : clsOf (.call c) ≠ .writes) (h : callV cfg call true ρ m c = some (v, m')) : m' = m := by
  have hm : ∀ {x : Option V}, x.map (·, m) = some (v, m') → m' = m := by
    intro x hx
    cases x with
    | none => cases hx
    | some y => simp at hx; exact hx.2.symm
  obtain ⟨callee, args, ts⟩ := c
  have hd : ∀ f as, doCall cfg call true f as m = some (v, m') → m' = m := by
    intro f as h
    unfold doCall at h
    split at h
    · simp at h
    · obtain ⟨x, _, h⟩ := Option.bind_eq_some_iff.1 h
      split at h
      · simp at h; exact h.2.symm
      · cases h
    · obtain ⟨as', _, h⟩ := Option.bind_eq_some_iff.1 h
      obtain ⟨⟨x, m2⟩, _, h⟩ := Option.bind_eq_some_iff.1 h
      obtain ⟨y, _, h⟩ := Option.bind_eq_some_iff.1 h
      split at h
      · simp at h; exact h.2.symm
      · simp at h
    · obtain ⟨⟨x, m2⟩, _, h⟩ := Option.bind_eq_some_iff.1 h
      exact hm h
  unfold callV at h
  cases callee with
  | builtin b =>
    simp only at h
    cases b <;> first | (exact absurd rfl hc) | skip
    all_goals
      unfold builtinV at h
      split at h <;> first | (exact hm h) | (cases h; done) | contradiction
  | value f =>
    simp only at h
    split at h
    · exact hd _ _ h
    · simp at h
    · cases h
  | invoke r k => cases h

theorem core_keeps {slot : Nat} {o : Oper} {g : Option Bool} {ρ : Operand → V} {m m' : Mem} {v : V} (hc : clsOf o.op ≠ .writes) (h : stepCore cfg call slot o g ρ m = some (v, m')) : m' = m := by
  unfold stepCore at h
  split at h
  · cases h
  · simp at h; exact h.2.symm
  · split at h
    · rename_i c ho
      rw [ho] at hc
      exact callV_keeps hc h
    · exact opQ_keeps hc h
theorem core_any {slot : Nat} {o : Oper} {g : Option Bool} {ρ : Operand → V} {m : Mem} (hc : clsOf o.op = .pure) (m' : Mem) : stepCore cfg call slot o g ρ m' = (stepCore cfg call slot o g ρ m).map fun (v, _) => (v, m') := by
  unfold stepCore
  split
  · rfl
  · rfl
  · split
    · rename_i c ho
      rw [ho] at hc
      obtain ⟨callee, args, ts⟩ := c
      cases callee with
      | builtin b => cases b <;> cases hc
      | value f => cases hc
      | invoke r k => cases hc
    · exact opQ_any hc
theorem core_congr {slot : Nat} {o : Oper} {g : Option Bool} {ρ ρ' : Operand → V} {m : Mem} (h : ∀ x ∈ o.op.operands, ρ x = ρ' x) : stepCore cfg call slot o g ρ m = stepCore cfg call slot o g ρ' m := by
  unfold stepCore
  split
  · rfl
  · rfl
  · split
    · rename_i c ho
      rw [ho] at h
      exact callV_congr c h
    · exact opQ_congr _ h

theorem names_dst {o : Oper} {d : Tmp} (h : o.dst = some d) : d ∈ namesOf ops o := by simp [namesOf, h]
theorem guard_putV {o : Oper} {tm : List V} {d : Option Tmp} {x : V} (h : ∀ t, d = some t → t ∉ namesOf ops o) : guardV ops (putV tm d x) o = guardV ops tm o := by
  cases d with
  | none => rfl
  | some d =>
    unfold guardV
    cases hg : o.guard with
    | none => rfl
    | some gw =>
      obtain ⟨j, want⟩ := gw
      simp only
      cases ht : (ops[j]?).bind (·.dst) with
      | none => rfl
      | some t =>
        have hne : d ≠ t := fun e => h d rfl (by subst e; simp [namesOf, hg, ht])
        simp [putV, List.getElem?_set_ne hne]
theorem rho_putV {o : Oper} {tm : List V} {d : Option Tmp} {y : V} (h : ∀ t, d = some t → t ∉ namesOf ops o) : ∀ x ∈ o.op.operands, evalO (putV tm d y) x = evalO tm x := fun x hx =>
  evalO_putV fun t ht e => h t ht (by
    subst e
    simp only [namesOf, List.mem_append, List.mem_filterMap]
    exact .inl (.inr ⟨.tmp t, by simpa using hx, rfl⟩))
theorem putV_comm {tm : List V} {a b : Option Tmp} {x y : V} (h : ∀ d, a = some d → b ≠ some d) : putV (putV tm a x) b y = putV (putV tm b y) a x := by
  cases a with
  | none => rfl
  | some a =>
    cases b with
    | none => rfl
    | some b => exact List.set_comm _ _ (fun e => h a rfl (by rw [e]))

theorem clash_spec {a b : Oper} (h : clash ops a b = false) :
    (∀ d, a.dst = some d → d ∉ namesOf ops b) ∧ (∀ d, b.dst = some d → d ∉ namesOf ops a) ∧ (clsOf a.op = .writes → clsOf b.op = .pure) ∧ (clsOf b.op = .writes → clsOf a.op = .pure) := by
  unfold clash at h
  simp only [Bool.or_eq_false_iff] at h
  obtain ⟨⟨⟨h1, h2⟩, h3⟩, h4⟩ := h
  refine ⟨fun d hd => ?_, fun d hd => ?_, fun hw => ?_, fun hw => ?_⟩
  · rw [hd] at h1
    simpa using h1
  · rw [hd] at h2
    simpa using h2
  · simpa [hw] using h3
  · simpa [hw] using h4

theorem swap {base a b : Nat} {oa ob : Oper} {st s1 s2 : St} (ha : ops[a]? = some oa) (hb : ops[b]? = some ob) (hcl : clash ops oa ob = false)
    (h1 : stepAt cfg call true ops base a st = some s1) (h2 : stepAt cfg call true ops base b s1 = some s2) :
    ∃ s', stepAt cfg call true ops base b st = some s' ∧ stepAt cfg call true ops base a s' = some s2 := by
  obtain ⟨n1, n2, w1, w2⟩ := clash_spec hcl
  rw [stepAt_draw ha] at h1
  obtain ⟨⟨va, ma⟩, c1, e1⟩ := Option.map_eq_some_iff.1 h1
  simp only at e1
  subst e1
  rw [stepAt_draw hb] at h2
  obtain ⟨⟨vb, mb⟩, c2, e2⟩ := Option.map_eq_some_iff.1 h2
  simp only at e2 c2
  subst e2
  rw [guard_putV n1, core_congr (rho_putV n1)] at c2
  have hcomm : ∀ x y, putV (putV st.tm oa.dst x) ob.dst y = putV (putV st.tm ob.dst y) oa.dst x := fun x y => putV_comm fun d hd e => n1 d hd (names_dst e)
  have fin : ∀ mb', stepCore cfg call (base + slotOf ops b) ob (guardV ops st.tm ob) (evalO st.tm) st.mem = some (vb, mb') →
      stepCore cfg call (base + slotOf ops a) oa (guardV ops st.tm oa) (evalO st.tm) mb' = some (va, mb) →
      ∃ s', stepAt cfg call true ops base b st = some s' ∧ stepAt cfg call true ops base a s' = some { st with tm := putV (putV st.tm oa.dst va) ob.dst vb, mem := mb } := by
    intro mb' k1 k2
    refine ⟨{ st with tm := putV st.tm ob.dst vb, mem := mb' }, ?_, ?_⟩
    · rw [stepAt_draw hb, k1]
      rfl
    · rw [stepAt_draw ha]
      simp only
      rw [guard_putV n2, core_congr (rho_putV n2), k2, hcomm]
      rfl
  by_cases hwa : clsOf oa.op = .writes
  · have hb' := w1 hwa
    rw [core_any hb' (m := st.mem) ma] at c2
    obtain ⟨⟨x, mx⟩, k1, k2⟩ := Option.map_eq_some_iff.1 c2
    simp only [Prod.mk.injEq] at k2
    obtain ⟨rfl, rfl⟩ := k2
    have := core_keeps (by rw [hb']; exact fun h => nomatch h) k1
    subst this
    exact fin _ k1 c1
  · have hma := core_keeps hwa c1
    subst hma
    refine fin mb c2 ?_
    by_cases hwb : clsOf ob.op = .writes
    · rw [core_any (w2 hwb) (m := st.mem) mb, c1]
      rfl
    · have := core_keeps hwb c2
      subst this
      exact c1

theorem hoist {base i : Nat} {oi : Oper} (hi : ops[i]? = some oi) {U2 : List Nat} {f : St} : ∀ (U1 : List Nat) (st : St), (∀ u ∈ U1, ∃ ou, ops[u]? = some ou ∧ clash ops ou oi = false) →
    runOps cfg call true ops base (U1 ++ i :: U2) st = some f → ∃ st', stepAt cfg call true ops base i st = some st' ∧ runOps cfg call true ops base (U1 ++ U2) st' = some f
  | [], st, _, h => by
    simp only [List.nil_append, runOps] at h ⊢
    exact Option.bind_eq_some_iff.1 h
  | u :: U1, st, hU, h => by
    simp only [List.cons_append, runOps] at h ⊢
    obtain ⟨s, h1, h2⟩ := Option.bind_eq_some_iff.1 h
    obtain ⟨s', h3, h4⟩ := hoist hi U1 s (fun u hu => hU u (List.mem_cons_of_mem _ hu)) h2
    obtain ⟨ou, hou, hc⟩ := hU u (List.mem_cons_self ..)
    obtain ⟨s'', h5, h6⟩ := swap hou hi hc h1 h3
    exact ⟨s'', h5, Option.bind_eq_some_iff.2 ⟨s', h6, h4⟩⟩

/-! ### What must stand before what -/
inductive Reach (ops : Array Oper) : Nat → Nat → Prop
  | one {j : Nat} {o : Oper} {e : Edge} : ops[j]? = some o → e ∈ o.after → Region.binds .any e = true → Reach ops j e.on
  | more {j k : Nat} {o : Oper} {e : Edge} : ops[j]? = some o → e ∈ o.after → Region.binds .any e = true → Reach ops e.on k → Reach ops j k

theorem oneBef_bit {look : Nat → Nat} {i : Nat} : ∀ (l : List Edge) (s : Nat), (l.foldl (fun s e => if Region.binds .any e then s ||| 2 ^ e.on ||| look e.on else s) s).testBit i = true →
    s.testBit i = true ∨ ∃ e ∈ l, Region.binds .any e = true ∧ (e.on = i ∨ (look e.on).testBit i = true)
  | [], s, h => .inl h
  | e :: l, s, h => by
    simp only [List.foldl_cons] at h
    rcases oneBef_bit l _ h with h | ⟨e', h1, h2, h3⟩
    · split at h
      · rename_i hb
        simp only [Nat.testBit_or, Bool.or_eq_true, Nat.testBit_two_pow, decide_eq_true_eq] at h
        rcases h with (h | h) | h
        · exact .inl h
        · exact .inr ⟨e, List.mem_cons_self .., hb, .inl h⟩
        · exact .inr ⟨e, List.mem_cons_self .., hb, .inr h⟩
      · exact .inl h
    · exact .inr ⟨e', List.mem_cons_of_mem _ h1, h2, h3⟩
theorem forceN_eq {α : Type} (n : Nat) (k : Nat → α) : forceN n k = k n := by cases n <;> rfl
theorem befs_reach : ∀ (l : List Oper) (done : List Oper) (acc : List Nat), ops.toList = done ++ l → acc.length = done.length → (∀ j i, (acc.getD j 0).testBit i = true → Reach ops j i) →
    ∀ j i, ((befs l acc).getD j 0).testBit i = true → Reach ops j i
  | [], done, acc, _, _, h, j, i, hb => h j i hb
  | o :: l, done, acc, he, hl, h, j, i, hb => by
    rw [befs, forceN_eq] at hb
    refine befs_reach l (done ++ [o]) (acc ++ [oneBef (fun i => acc.getD i 0) o]) (by simp [he]) (by simp [hl]) (fun j i hb => ?_) j i hb
    rcases Nat.lt_trichotomy j acc.length with hj | hj | hj
    · refine h j i ?_
      rw [List.getD_eq_getElem?_getD] at hb ⊢
      rw [List.getElem?_append_left hj] at hb
      exact hb
    · subst hj
      have ho : ops[acc.length]? = some o := by
        rw [← Array.getElem?_toList, he, List.getElem?_append_right (by omega)]
        simp [hl]
      rw [List.getD_eq_getElem?_getD, List.getElem?_append_right (Nat.le_refl _)] at hb
      simp only [Nat.sub_self, List.getElem?_cons_zero, Option.getD_some] at hb
      unfold oneBef at hb
      rcases oneBef_bit (look := fun i => acc.getD i 0) _ _ hb with hz | ⟨e, h1, h2, h3⟩
      · simp at hz
      · have h1 : e ∈ o.after := by simpa using h1
        rcases h3 with h3 | h3
        · subst h3
          exact .one ho h1 h2
        · exact .more ho h1 h2 (h _ _ h3)
    · rw [List.getD_eq_getElem?_getD, List.getElem?_eq_none (by simp; omega)] at hb
      simp at hb

theorem drawOk_spec (h : drawOk ops = true) : (∀ j o, ops[j]? = some o → ∀ e ∈ o.after, Region.binds .any e = true → e.on < j) ∧
    (∀ i j a b, i < j → ops[i]? = some a → ops[j]? = some b → clash ops a b = false ∨ Reach ops j i) := by
  unfold drawOk at h
  have key : ∀ (j : Nat) (b : Oper), ops[j]? = some b → (b, j) ∈ ops.toList.zipIdx := fun j b hb => by
    rw [List.mem_zipIdx_iff_getElem?]
    simpa using hb
  simp only [List.all_eq_true] at h
  constructor
  · intro j o ho e he hb
    have h1 := h _ (key j o ho)
    simp only [Bool.and_eq_true, List.all_eq_true] at h1
    have h2 := h1.1 e (by simpa using he)
    simpa [hb, Nat.blt_eq] using h2
  · intro i j a b hij ha hb
    have h1 := h _ (key j b hb)
    simp only [Bool.and_eq_true, List.all_eq_true] at h1
    have h2 := h1.2 _ (key i a ha)
    have hlt : Nat.blt i j = true := by rw [Nat.blt_eq]; exact hij
    simp only [hlt, Bool.not_true, Bool.false_or, Bool.or_eq_true, Bool.not_eq_true'] at h2
    rcases h2 with h2 | h2
    · exact .inl h2
    · exact .inr (befs_reach (ops := ops) ops.toList [] [] (by simp) rfl (fun j i h => by simp at h) j i h2)
end
end Go.Proofs.YtpdgbhjhodhkiaaGreatDoor.AI
