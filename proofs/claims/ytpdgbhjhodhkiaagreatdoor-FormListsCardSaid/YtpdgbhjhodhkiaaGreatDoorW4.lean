/- Typed values: arithmetic, conversions, slices, maps' reading. -/
import Derived.Test.YtpdgbhjhodhkiaaGreatDoorW3
import Derived.Laws.Strings
set_option linter.unusedVariables false
set_option linter.unusedSimpArgs false
namespace Go.Proofs.YtpdgbhjhodhkiaaGreatDoor.AI
open Go
variable {T : Nat → Type} {C : Cod T} {R : Type} {P : Program}

def scalW : V → Option (W T)
  | .bool b => some (.bool b)
  | .int k n => some (.int k n)
  | _ => none
theorem scalW_sound {v : V} {w : W T} (h : scalW v = some w) {α β} : Rep C α β w v := by
  unfold scalW at h
  split at h <;> first | (injection h with h; subst h; simp only [Rep]) | cases h
def eqlW (d : TypeDesc) (lit : Bool) (x y : W T) : Option Bool :=
  match d, x, y with
  | .bool, .bool a, .bool b => some (a == b)
  | .pointer _, .nilp, .nilp => some true
  | .pointer _, .nilp, .ptr _ _ | .pointer _, .ptr _ _, .nilp | .pointer _, .nilp, .relem _ _ _ | .pointer _, .relem _ _ _, .nilp | .pointer _, .nilp, .oelem _ _ _ _ | .pointer _, .oelem _ _ _ _, .nilp => some false
  | .interface _, .nili, .nili => if lit then some true else none
  | .interface _, .nili, .ifc _ _ | .interface _, .ifc _ _, .nili => some false
  | .map _ _, .nilm, .nilm => some true
  | .map _ _, .nilm, .map _ | .map _ _, .map _, .nilm => some false
  | .func _ _ _, .nilf, .nilf => some true
  | .func _ _ _, .nilf, .fn _ _ | .func _ _ _, .fn _ _, .nilf => some false
  | _, _, _ => none
theorem eqlW_sound {d : TypeDesc} {lit : Bool} {x y : W T} {b : Bool} (h : eqlW d lit x y = some b) {α β vx vy} (hx : Rep C α β x vx) (hy : Rep C α β y vy) :
    eqlV d lit vx vy = some b ∧ (∀ k n k' n', ¬ (vx = .int k n ∧ vy = .int k' n')) ∧ (∀ s s', ¬ (vx = .str s ∧ vy = .str s')) := by
  unfold eqlW at h
  split at h <;> first | (cases h; done) | simp only [Rep] at hx hy
  · subst hx hy; exact ⟨h, by simp, by simp⟩
  · subst hx hy; exact ⟨h, by simp, by simp⟩
  · subst hx; obtain ⟨_, _, rfl⟩ := hy; exact ⟨h, by simp, by simp⟩
  · subst hy; obtain ⟨_, _, rfl⟩ := hx; exact ⟨h, by simp, by simp⟩
  · subst hx; obtain ⟨_, _, rfl, _⟩ := hy; exact ⟨h, by simp, by simp⟩
  · subst hy; obtain ⟨_, _, rfl, _⟩ := hx; exact ⟨h, by simp, by simp⟩
  · subst hx; obtain ⟨_, _, _, _, rfl⟩ := hy; exact ⟨h, by simp, by simp⟩
  · subst hy; obtain ⟨_, _, _, _, rfl⟩ := hx; exact ⟨h, by simp, by simp⟩
  · subst hx hy; exact ⟨h, by simp, by simp⟩
  · subst hx; obtain ⟨_, rfl, _⟩ := hy; exact ⟨h, by simp, by simp⟩
  · subst hy; obtain ⟨_, rfl, _⟩ := hx; exact ⟨h, by simp, by simp⟩
  · subst hx hy; exact ⟨h, by simp, by simp⟩
  · subst hx; obtain ⟨_, _, _, _, rfl⟩ := hy; exact ⟨h, by simp, by simp⟩
  · subst hy; obtain ⟨_, _, _, _, rfl⟩ := hx; exact ⟨h, by simp, by simp⟩
  · subst hx hy; exact ⟨h, by simp, by simp⟩
  · subst hx; obtain ⟨_, rfl, _⟩ := hy; exact ⟨h, by simp, by simp⟩
  · subst hy; obtain ⟨_, rfl, _⟩ := hx; exact ⟨h, by simp, by simp⟩
def strK (op : BinOp) (a b : List UInt8) (k : W T → Option R) : Option R :=
  match op with
  | .add => cnd (decide (((a.length + b.length : Nat) : Int) > 9223372036854775807)) none (k (.str (a ++ b)))
  | .eql => k (.bool (a == b))
  | .neq => k (.bool (!(a == b)))
  | .lss => k (.bool (Op.bytesLess a b))
  | .leq => k (.bool (Op.bytesLess a b || a == b))
  | .gtr => k (.bool (!(Op.bytesLess a b || a == b)))
  | .geq => k (.bool (!(Op.bytesLess a b)))
  | _ => none
def binWK (P : Program) (op : BinOp) (t : TypeId) (lit : Bool) (x y : W T) (k : W T → Option R) : Option R :=
  match x, y with
  | .int kd a, .int kd' b =>
    match op, kd, kd' with
    | .add, .i64, .i64 => cnd (ok64 (a + b)) (k (.int .i64 (a + b))) none
    | .sub, .i64, .i64 => cnd (ok64 (a - b)) (k (.int .i64 (a - b))) none
    | .mul, .i64, .i64 => cnd (ok64 (a * b)) (k (.int .i64 (a * b))) none
    | .quo, .i64, .i64 => cnd (decide (b = 0)) none (cnd (ok64 (a.tdiv b)) (k (.int .i64 (a.tdiv b))) none)
    | .rem, kd, kd' => if kd = kd' then cnd (decide (b = 0)) none (k (.int kd (a.tmod b))) else none
    | .shl, .i64, _ => cnd (decide (0 ≤ b)) (k (.int .i64 (IntKind.i64.wrap (a * 2 ^ (min b.toNat 64))))) none
    | .shr, kd, _ => cnd (decide (0 ≤ b)) (k (.int kd (a.fdiv (2 ^ (min b.toNat kd.bits))))) none
    | op, kd, kd' => opK ((binV P op t lit (.int kd a) (.int kd' b)).bind scalW) k
  | .str a, .str b => strK op a b k
  | x, y =>
    match op, P.underlying t with
    | .eql, some d => opK (eqlW d lit x y) fun b => k (.bool b)
    | .neq, some d => opK (eqlW d lit x y) fun b => k (.bool (!b))
    | _, _ => none
theorem toList_mk (s : List UInt8) : (ByteArray.mk s.toArray).toList = s := by rw [ByteArray.toList_eq]
theorem size_mk (s : List UInt8) : (ByteArray.mk s.toArray).size = s.length := by simp [ByteArray.size]
theorem append_mk (a b : List UInt8) : (ByteArray.mk a.toArray) ++ (ByteArray.mk b.toArray) = ⟨(a ++ b).toArray⟩ := by
  apply WideShapes.bytes_inj
  rw [ByteArray.data_append]
  simp
theorem strK_sound {op : BinOp} {a b : List UInt8} {k : W T → Option R} {r : R} (h : strK op a b k = some r) :
    ∃ w, k w = some r ∧ ∀ {α β}, ∃ u, strV op ⟨a.toArray⟩ ⟨b.toArray⟩ = some u ∧ Rep C α β w u := by
  unfold strK at h
  split at h
  · obtain ⟨h1, h2⟩ := cond_none h
    refine ⟨_, h2, fun {α β} => ⟨.str ⟨(a ++ b).toArray⟩, ?_, by simp only [Rep]⟩⟩
    simp only [strV, size_mk]
    rw [if_neg (of_decide_eq_false h1), append_mk]
  all_goals first
    | (cases h; done)
    | exact ⟨_, h, fun {α β} => ⟨_, rfl, by simp only [Rep, toList_mk]⟩⟩
theorem binWK_sound {op : BinOp} {t : TypeId} {lit : Bool} {x y : W T} {k : W T → Option R} {r : R} (h : binWK P op t lit x y k = some r) :
    ∃ w, k w = some r ∧ ∀ {α β vx vy}, Rep C α β x vx → Rep C α β y vy → ∃ u, binV P op t lit vx vy = some u ∧ Rep C α β w u := by
  unfold binWK at h
  split at h
  · rename_i kd a kd' b
    split at h
    · obtain ⟨h1, h2⟩ := cond_some h
      refine ⟨_, h2, fun hx hy => ?_⟩
      simp only [Rep] at hx hy; subst hx hy
      exact ⟨_, rfl, by simp only [Rep, wrap_ok64 h1]⟩
    · obtain ⟨h1, h2⟩ := cond_some h
      refine ⟨_, h2, fun hx hy => ?_⟩
      simp only [Rep] at hx hy; subst hx hy
      exact ⟨_, rfl, by simp only [Rep, wrap_ok64 h1]⟩
    · obtain ⟨h1, h2⟩ := cond_some h
      refine ⟨_, h2, fun hx hy => ?_⟩
      simp only [Rep] at hx hy; subst hx hy
      exact ⟨_, rfl, by simp only [Rep, wrap_ok64 h1]⟩
    · obtain ⟨h0, h⟩ := cond_none h
      obtain ⟨h1, h2⟩ := cond_some h
      refine ⟨_, h2, fun hx hy => ?_⟩
      simp only [Rep] at hx hy; subst hx hy
      refine ⟨.int .i64 (a.tdiv b), ?_, by simp only [Rep]⟩
      simp only [binV, if_true, intV]
      rw [if_neg (of_decide_eq_false h0), wrap_ok64 h1]
    · split at h
      · rename_i hk
        subst hk
        obtain ⟨h0, h2⟩ := cond_none h
        refine ⟨_, h2, fun hx hy => ?_⟩
        simp only [Rep] at hx hy; subst hx hy
        refine ⟨_, ?_, by simp only [Rep]; rfl⟩
        simp only [binV, if_true, intV]
        rw [if_neg (of_decide_eq_false h0)]
      · cases h
    · obtain ⟨h0, h2⟩ := cond_some h
      refine ⟨_, h2, fun hx hy => ?_⟩
      simp only [Rep] at hx hy; subst hx hy
      refine ⟨_, ?_, by simp only [Rep]; rfl⟩
      simp only [binV, shiftV]
      rw [if_neg (by have := of_decide_eq_true h0; omega)]
      rfl
    · obtain ⟨h0, h2⟩ := cond_some h
      refine ⟨_, h2, fun hx hy => ?_⟩
      simp only [Rep] at hx hy; subst hx hy
      refine ⟨_, ?_, by simp only [Rep]; rfl⟩
      simp only [binV, shiftV]
      rw [if_neg (by have := of_decide_eq_true h0; omega)]
    · obtain ⟨w, h1, h2⟩ := opK_some h
      obtain ⟨u, h3, h4⟩ := Option.bind_eq_some_iff.1 h1
      refine ⟨w, h2, fun hx hy => ?_⟩
      simp only [Rep] at hx hy; subst hx hy
      exact ⟨u, h3, scalW_sound h4⟩
  · rename_i a b
    obtain ⟨w, h1, h2⟩ := strK_sound h
    refine ⟨w, h1, fun {α β vx vy} hx hy => ?_⟩
    simp only [Rep] at hx hy; subst hx hy
    obtain ⟨u, h3, h4⟩ := h2 (α := α) (β := β)
    exact ⟨u, by simp only [binV]; exact h3, h4⟩
  · rename_i x y hni hns
    split at h
    · rename_i d hu
      obtain ⟨b, h1, h2⟩ := opK_some h
      refine ⟨_, h2, fun {α β vx vy} hx hy => ?_⟩
      obtain ⟨h3, h4, h5⟩ := eqlW_sound h1 hx hy
      refine ⟨.bool b, ?_, by simp only [Rep]⟩
      unfold binV
      split
      · exact absurd ⟨rfl, rfl⟩ (h4 _ _ _ _)
      · exact absurd ⟨rfl, rfl⟩ (h5 _ _)
      · simp only [hu, h3, Option.map_some]
    · rename_i d hu
      obtain ⟨b, h1, h2⟩ := opK_some h
      refine ⟨_, h2, fun {α β vx vy} hx hy => ?_⟩
      obtain ⟨h3, h4, h5⟩ := eqlW_sound h1 hx hy
      refine ⟨.bool (!b), ?_, by simp only [Rep]⟩
      unfold binV
      split
      · exact absurd ⟨rfl, rfl⟩ (h4 _ _ _ _)
      · exact absurd ⟨rfl, rfl⟩ (h5 _ _)
      · simp only [hu, h3, Option.map_some]
    · cases h
def unWK (op : UnOp) (x : W T) (k : W T → Option R) : Option R :=
  match op, x with
  | .neg, .int .i64 n => cnd (ok64 (0 - n)) (k (.int .i64 (0 - n))) none
  | .not, .bool b => k (.bool !b)
  | _, _ => none
theorem unWK_sound {op : UnOp} {x : W T} {k : W T → Option R} {r : R} (h : unWK op x k = some r) :
    ∃ w, k w = some r ∧ ∀ {α β vx}, Rep C α β x vx → ∃ u, unV op vx = some u ∧ Rep C α β w u := by
  unfold unWK at h
  split at h
  · obtain ⟨h1, h2⟩ := cond_some h
    refine ⟨_, h2, fun hx => ?_⟩
    simp only [Rep] at hx; subst hx
    exact ⟨_, rfl, by simp only [Rep, wrap_ok64 h1]⟩
  · refine ⟨_, h, fun hx => ?_⟩
    simp only [Rep] at hx; subst hx
    exact ⟨_, rfl, by simp only [Rep]⟩
  · cases h

/-! ### Contents of slices -/
def contWK (wm : WM T) (x : W T) (k : (kk : Nat) → List (T kk) → Option R) : Option R :=
  match x with
  | .row kk l _ => k kk l
  | .own kk h =>
    match wm.H[h]? with
    | some (.rows k' l) => if k' = kk then k k' l else none
    | _ => none
  | .view kk h off len =>
    match wm.H[h]? with
    | some (.rows k' l) => if k' = kk then cnd (decide (off + len ≤ l.length)) (k k' ((l.drop off).take len)) none else none
    | _ => none
  | _ => none
theorem contWK_sound (ok : CodOk C) {wm : WM T} {x : W T} {k : (kk : Nat) → List (T kk) → Option R} {r : R} (h : contWK wm x k = some r) :
    ∃ kk l, k kk l = some r ∧ ∀ {bs α β m v}, WSim bs C α β wm m → Rep C α β x v → ∃ cs, contents m (C.size kk) v = some (l.length, cs) ∧ CRL C kk l cs ∧ ((∃ c n f, v = .ro c n f) ∨ ∃ b ver o n, v = .sl b ver o n) := by
  unfold contWK at h
  split at h
  · rename_i kk l full
    refine ⟨kk, l, h, fun S hr => ?_⟩
    simp only [Rep] at hr
    obtain ⟨cs, fl, rfl, _, hc⟩ := hr
    exact ⟨cs, by simp only [contents]; rw [if_pos (hc.length ok).symm], hc, .inl ⟨_, _, _, rfl⟩⟩
  · rename_i kk hh
    split at h
    · rename_i k' l he
      split at h
      · rename_i hk
        subst hk
        refine ⟨k', l, h, fun S hr => ?_⟩
        simp only [Rep] at hr
        rcases S.rows he with ⟨hb', rfl⟩ | ⟨b', ver', cs, hb', hB, hcr⟩
        · rcases hr with ⟨_, rfl⟩ | ⟨b, ver, nn, hb, rfl⟩
          · exact ⟨[], by simp [contents], rfl, .inl ⟨_, _, _, rfl⟩⟩
          · rw [hb] at hb'; cases hb'
        · rcases hr with ⟨hb, _⟩ | ⟨b, ver, nn, hb, rfl⟩
          · rw [hb] at hb'; cases hb'
          · rw [hb] at hb'
            injection hb' with hb'; injection hb' with hb'
            simp only [Prod.mk.injEq] at hb'
            obtain ⟨rfl, rfl, rfl⟩ := hb'
            refine ⟨cs, ?_, hcr, .inr ⟨_, _, _, _, rfl⟩⟩
            simp only [contents, hB, and_self, if_true]
            have := hcr.length ok
            unfold sub
            rw [if_pos (by omega)]
            simp [← this]
      · cases h
    · cases h
  · rename_i kk hh off len
    split at h
    · rename_i k' l he
      split at h
      · rename_i hk
        subst hk
        obtain ⟨h1, h2⟩ := cond_some h
        have h1 := of_decide_eq_true h1
        refine ⟨k', _, h2, fun S hr => ?_⟩
        simp only [Rep] at hr
        have hln : ((l.drop off).take len).length = len := by simp; omega
        rcases S.rows he with ⟨hb', rfl⟩ | ⟨b', ver', cs, hb', hB, hcr⟩
        · rcases hr with ⟨_, rfl, rfl, fl, rfl⟩ | ⟨b, ver, nn, hb, rfl⟩
          · exact ⟨[], by simp [contents], rfl, .inl ⟨_, _, _, rfl⟩⟩
          · rw [hb] at hb'; cases hb'
        · rcases hr with ⟨hb, _⟩ | ⟨b, ver, nn, hb, rfl⟩
          · rw [hb] at hb'; cases hb'
          · rw [hb] at hb'
            injection hb' with hb'; injection hb' with hb'
            simp only [Prod.mk.injEq] at hb'
            obtain ⟨rfl, rfl, rfl⟩ := hb'
            refine ⟨(cs.drop (off * C.size k')).take (len * C.size k'), ?_, (hcr.drop ok off).take ok len, .inr ⟨_, _, _, _, rfl⟩⟩
            simp only [contents, hB, and_self, if_true]
            have e := hcr.length ok
            unfold sub
            rw [if_pos]
            · simp only [Option.map_some, hln]
            · rw [e, ← Nat.add_mul]; exact Nat.mul_le_mul_right _ h1
      · cases h
    · cases h
  · cases h

/-! ### Conversions, slices -/
def convWK (wc : WCfg T) (P : Program) (wm : WM T) (src dst : TypeId) (x : W T) (k : W T → Option R) : Option R :=
  match P.underlying src, P.underlying dst, x with
  | some (.slice e), some .string, .nilsl =>
    match P.underlying e with
    | some (.int .u8) => k (.str [])
    | _ => none
  | some (.slice e), some .string, x =>
    match P.underlying e with
    | some (.int .u8) => contWK wm x fun kk l => opK (wc.C.unbytes kk l) fun s => k (.str s)
    | _ => none
  | some (.int _), some (.int .i64), .int _ n => cnd (ok64 n) (k (.int .i64 n)) none
  | some (.int _), some (.int kd), .int _ n => k (.int kd (kd.wrap n))
  | some .string, some .string, .str s => k (.str s)
  | some .string, some (.slice e), .str s =>
    match P.underlying e, wc.kd e with
    | some (.int .u8), some kk => cnd (decide (s.length ≤ 140737488355328)) (opK (wc.C.bytes kk s) fun l => k (.row kk l false)) none
    | _, _ => none
  | _, _, _ => none
theorem strOfNums_map (s : List UInt8) : strOfNums (s.map fun b => (b.toNat : Int)) = ⟨s.toArray⟩ := by
  unfold strOfNums
  congr 2
  rw [List.map_map]
  conv => rhs; rw [← List.map_id s]
  apply List.map_congr_left
  intro b _
  simp
theorem convWK_sound {wc : WCfg T} (ok : CodOk wc.C) {wm : WM T} {src dst : TypeId} {x : W T} {k : W T → Option R} {r : R} (h : convWK wc P wm src dst x k = some r) :
    ∃ w, k w = some r ∧ ∀ {bs α β m v}, WSim bs wc.C α β wm m → Rep wc.C α β x v → ∃ u, convV P m src dst v = some u ∧ Rep wc.C α β w u := by
  unfold convWK at h
  split at h
  · rename_i e hs hd
    split at h
    · rename_i he
      refine ⟨_, h, fun S hr => ?_⟩
      simp only [Rep] at hr; subst hr
      refine ⟨.str ⟨#[]⟩, ?_, by simp only [Rep]⟩
      simp only [convV, hs, hd, he, contents]
      rfl
    · cases h
  · rename_i e x hs hd hx
    split at h
    · rename_i he
      obtain ⟨kk, l, h1, h2⟩ := contWK_sound ok h
      obtain ⟨s, h3, h4⟩ := opK_some h1
      refine ⟨_, h4, fun {bs α β m v} S hr => ?_⟩
      obtain ⟨cs, h5, h6, h9⟩ := h2 S hr
      obtain ⟨h7, h8⟩ := ok.unbytes _ _ _ _ h3 h6
      rw [h8] at h5
      refine ⟨.str ⟨s.toArray⟩, ?_, by simp only [Rep]⟩
      have key : ((contents m 1 v).bind fun (_, cs) => (u8sOf cs).map fun xs => V.str (strOfNums xs)) = some (.str ⟨s.toArray⟩) := by
        rw [h5]
        simp only [Option.bind_some, h7, Option.map_some, strOfNums_map]
      rcases h9 with ⟨_, _, _, rfl⟩ | ⟨_, _, _, _, rfl⟩
      · simp only [convV, hs, hd, he]; exact key
      · simp only [convV, hs, hd, he]; exact key
    · cases h
  · rename_i kd n hs hd
    obtain ⟨h1, h2⟩ := cond_some h
    refine ⟨_, h2, fun S hr => ?_⟩
    simp only [Rep] at hr; subst hr
    exact ⟨.int .i64 n, by simp only [convV, hs, hd, wrap_ok64 h1], by simp only [Rep]⟩
  · rename_i n hn hs hd
    refine ⟨_, h, fun S hr => ?_⟩
    simp only [Rep] at hr; subst hr
    exact ⟨.int _ _, by simp only [convV, hs, hd]; rfl, by simp only [Rep]⟩
  · rename_i s hs hd
    refine ⟨_, h, fun S hr => ?_⟩
    simp only [Rep] at hr; subst hr
    exact ⟨.str _, by simp only [convV, hs, hd]; rfl, by simp only [Rep]⟩
  · rename_i e s hs hd
    split at h
    · rename_i kk he hk
      obtain ⟨h1, h2⟩ := cond_some h
      obtain ⟨l, h3, h4⟩ := opK_some h2
      obtain ⟨h5, h6, h7⟩ := ok.bytes _ _ _ h3
      refine ⟨_, h4, fun S hr => ?_⟩
      simp only [Rep] at hr; subst hr
      refine ⟨.ro (s.map fun b => .int .u8 b.toNat) s.length false, ?_, ?_⟩
      · simp only [convV, hs, hd, he, size_mk, data_mk]
        rw [if_pos (of_decide_eq_true h1)]
      · simp only [Rep]
        exact ⟨_, _, by rw [h5], (fun h => by cases h), h6⟩
    · cases h
  · cases h

def boundWK (x : Option (W T)) (d : Nat) (k : Nat → Option R) : Option R :=
  match x with
  | none => k d
  | some (.int _ i) => cnd (decide (0 ≤ i)) (k i.toNat) none
  | some _ => none
inductive RepO (C : Cod T) (α : List Nat) (β : Bt) : Option (W T) → Option V → Prop
  | none : RepO C α β none none
  | some {w v} : Rep C α β w v → RepO C α β (some w) (some v)
theorem boundWK_sound {x : Option (W T)} {d : Nat} {k : Nat → Option R} {r : R} (h : boundWK x d k = some r) : ∃ n, k n = some r ∧ ∀ {α β v}, RepO C α β x v → boundV v d = some n := by
  unfold boundWK at h
  split at h
  · exact ⟨d, h, fun hr => by cases hr; rfl⟩
  · rename_i kd i
    obtain ⟨h1, h2⟩ := cond_some h
    refine ⟨_, h2, fun hr => ?_⟩
    cases hr with
    | some hr =>
      simp only [Rep] at hr; subst hr
      simp only [boundV]
      rw [if_pos (of_decide_eq_true h1)]
  · cases h
def sliceWK (C : Cod T) (P : Program) (wm : WM T) (t : TypeId) (x : W T) (lo hi mx : Option (W T)) (k : W T → Option R) : Option R :=
  match P.underlying t, x, mx with
  | some .string, .str s, none => boundWK lo 0 fun l => boundWK hi s.length fun h => cnd (decide (l ≤ h ∧ h ≤ s.length)) (k (.str ((s.drop l).take (h - l)))) none
  | some (.slice e), .row kk c full, none =>
    if sizeV P e = some (C.size kk) then boundWK lo 0 fun l => boundWK hi c.length fun h => cnd (decide (l ≤ h ∧ h ≤ c.length)) (k (.row kk ((c.drop l).take (h - l)) (full && hi.isNone))) none else none
  | some (.slice e), .row kk c full, some m =>
    if sizeV P e = some (C.size kk) ∧ hi.isSome = true then boundWK lo 0 fun l => boundWK hi c.length fun h => boundWK (some m) 0 fun m' =>
      cnd (decide (l ≤ h ∧ h = m' ∧ m' ≤ c.length)) (k (.row kk ((c.drop l).take (h - l)) true)) none else none
  | some (.slice e), .own kk hd, none =>
    match wm.H[hd]? with
    | some (.rows k' c) => if sizeV P e = some (C.size kk) ∧ k' = kk then boundWK lo 0 fun l => boundWK hi c.length fun h => cnd (decide (l ≤ h ∧ h ≤ c.length)) (k (.view kk hd l (h - l))) none else none
    | _ => none
  | some (.slice e), .view kk hd off len, none =>
    match wm.H[hd]? with
    | some (.rows k' c) => if sizeV P e = some (C.size kk) ∧ k' = kk then boundWK lo 0 fun l => boundWK hi len fun h => cnd (decide (l ≤ h ∧ h ≤ len)) (k (.view kk hd (off + l) (h - l))) none else none
    | _ => none
  | some (.slice e), .nilsl, none => if (sizeV P e).isSome = true then boundWK lo 0 fun l => boundWK hi 0 fun h => cnd (decide (l = 0 ∧ h = 0)) (k .nilsl) none else none
  | _, _, _ => none
theorem extract_mk (s : List UInt8) (l h : Nat) : (ByteArray.mk s.toArray).extract l h = ⟨((s.drop l).take (h - l)).toArray⟩ := by
  apply WideShapes.bytes_inj
  rw [ByteArray.data_extract]
  simp [Array.toList_extract, List.extract]
theorem sliceWK_sound (ok : CodOk C) {wm : WM T} {t : TypeId} {x : W T} {lo hi mx : Option (W T)} {k : W T → Option R} {r : R} (h : sliceWK C P wm t x lo hi mx k = some r) :
    ∃ w, k w = some r ∧ ∀ {bs α β m v vlo vhi vmx}, WSim bs C α β wm m → Rep C α β x v → RepO C α β lo vlo → RepO C α β hi vhi → RepO C α β mx vmx → ∃ u, sliceV P m t v vlo vhi vmx = some u ∧ Rep C α β w u := by
  unfold sliceWK at h
  split at h
  · rename_i s hu
    obtain ⟨l, h1, e1⟩ := boundWK_sound (C := C) h
    obtain ⟨hh, h2, e2⟩ := boundWK_sound (C := C) h1
    obtain ⟨h3, h4⟩ := cond_some h2
    refine ⟨_, h4, fun S hr hlo hhi hmx => ?_⟩
    simp only [Rep] at hr; subst hr
    cases hmx
    refine ⟨.str ⟨((s.drop l).take (hh - l)).toArray⟩, ?_, by simp only [Rep]⟩
    simp only [sliceV, hu, e1 hlo, size_mk, e2 hhi, of_decide_eq_true h3, and_self, if_true, extract_mk]
  · rename_i e kk c full hu
    split at h
    · rename_i hsz
      obtain ⟨l, h1, e1⟩ := boundWK_sound (C := C) h
      obtain ⟨hh, h2, e2⟩ := boundWK_sound (C := C) h1
      obtain ⟨h3, h4⟩ := cond_some h2
      have h3 := of_decide_eq_true h3
      refine ⟨_, h4, fun S hr hlo hhi hmx => ?_⟩
      simp only [Rep] at hr
      obtain ⟨cs, fl, rfl, hfl, hc⟩ := hr
      cases hmx
      have hlen := hc.length ok
      refine ⟨.ro ((cs.drop (l * C.size kk)).take ((hh - l) * C.size kk)) (hh - l) (fl && hh == c.length), ?_, ?_⟩
      · simp only [sliceV, hu, hsz, e1 hlo, e2 hhi, h3, and_self, if_true]
        unfold sub
        rw [if_pos]
        · rfl
        · rw [hlen, ← Nat.add_mul]; exact Nat.mul_le_mul_right _ (by omega)
      · simp only [Rep]
        have hln : ((c.drop l).take (hh - l)).length = hh - l := by simp; omega
        refine ⟨_, _, by rw [hln], ?_, (hc.drop ok l).take ok _⟩
        intro hf
        simp only [Bool.and_eq_true] at hf ⊢
        refine ⟨hfl hf.1, ?_⟩
        cases hhi with
        | none =>
          have := e2 (α := []) (β := []) RepO.none
          simp only [boundV, Option.some.injEq] at this
          simp [this]
        | some _ => cases hf.2
    · cases h
  · rename_i e kk c full m hu
    split at h
    · rename_i hsz
      obtain ⟨l, h1, e1⟩ := boundWK_sound (C := C) h
      obtain ⟨hh, h2, e2⟩ := boundWK_sound (C := C) h1
      obtain ⟨mm, h2, e3⟩ := boundWK_sound (C := C) h2
      obtain ⟨h3, h4⟩ := cond_some h2
      obtain ⟨h6, rfl, h5⟩ := of_decide_eq_true h3
      refine ⟨_, h4, fun S hr hlo hhi hmx => ?_⟩
      simp only [Rep] at hr
      obtain ⟨cs, fl, rfl, hfl, hc⟩ := hr
      have hlen := hc.length ok
      cases hmx with
      | some hm =>
        have e3 := e3 (RepO.some hm)
        refine ⟨.ro ((cs.drop (l * C.size kk)).take ((hh - l) * C.size kk)) (hh - l) (hh == hh), ?_, ?_⟩
        · simp only [sliceV, hu, hsz.1, e1 hlo, e2 hhi, e3]
          rw [if_pos ⟨h6, Nat.le_refl _, h5, by cases hhi with | none => cases hsz.2 | some _ => rfl⟩]
          unfold sub
          rw [if_pos]
          · rfl
          · rw [hlen, ← Nat.add_mul]; exact Nat.mul_le_mul_right _ (by omega)
        · simp only [Rep]
          have hln : ((c.drop l).take (hh - l)).length = hh - l := by simp; omega
          exact ⟨_, _, by rw [hln], fun _ => by simp, (hc.drop ok l).take ok _⟩
    · cases h
  · rename_i e kk hd hu
    split at h
    · rename_i k' c he
      split at h
      · rename_i hsz
        obtain ⟨hsz, rfl⟩ := hsz
        obtain ⟨l, h1, e1⟩ := boundWK_sound (C := C) h
        obtain ⟨hh, h2, e2⟩ := boundWK_sound (C := C) h1
        obtain ⟨h3, h4⟩ := cond_some h2
        have h3 := of_decide_eq_true h3
        refine ⟨_, h4, fun S hr hlo hhi hmx => ?_⟩
        simp only [Rep] at hr
        cases hmx
        rcases S.rows he with ⟨hb', rfl⟩ | ⟨b', ver', cs, hb', hB, hcr⟩
        · rcases hr with ⟨hb, rfl⟩ | ⟨b, ver, nn, hb, rfl⟩
          · simp only [List.length_nil] at h3 e2
            have : hh = 0 := by omega
            subst this
            have : l = 0 := by omega
            subst this
            refine ⟨.ro [] 0 (true && 0 == 0), ?_, ?_⟩
            · simp only [sliceV, hu, hsz, e1 hlo, e2 hhi]
              simp [sub]
            · simp only [Rep]
              exact .inl ⟨hb, by first | trivial | rfl, by first | trivial | rfl, _, rfl⟩
          · rw [hb] at hb'; cases hb'
        · rcases hr with ⟨hb, _⟩ | ⟨b, ver, nn, hb, rfl⟩
          · rw [hb] at hb'; cases hb'
          · have hb0 := hb
            rw [hb] at hb'
            injection hb' with hb'; injection hb' with hb'
            simp only [Prod.mk.injEq] at hb'
            obtain ⟨rfl, rfl, rfl⟩ := hb'
            refine ⟨.sl b ver (0 + l * C.size k') (hh - l), ?_, ?_⟩
            · simp only [sliceV, hu, hsz, e1 hlo, e2 hhi, hB]
              rw [if_pos ⟨h3.1, h3.2, by first | trivial | rfl, by first | trivial | rfl⟩]
            · simp only [Rep]
              exact .inr ⟨b, ver, _, hb0, by rw [Nat.zero_add]⟩
      · cases h
    · cases h
  · rename_i e kk hd off len hu
    split at h
    · rename_i k' c he
      split at h
      · rename_i hsz
        obtain ⟨hsz, rfl⟩ := hsz
        obtain ⟨l, h1, e1⟩ := boundWK_sound (C := C) h
        obtain ⟨hh, h2, e2⟩ := boundWK_sound (C := C) h1
        obtain ⟨h3, h4⟩ := cond_some h2
        have h3 := of_decide_eq_true h3
        refine ⟨_, h4, fun S hr hlo hhi hmx => ?_⟩
        simp only [Rep] at hr
        cases hmx
        rcases S.rows he with ⟨hb', rfl⟩ | ⟨b', ver', cs, hb', hB, hcr⟩
        · rcases hr with ⟨hb, rfl, rfl, fl, rfl⟩ | ⟨b, ver, nn, hb, rfl⟩
          · have : hh = 0 := by omega
            subst this
            have : l = 0 := by omega
            subst this
            refine ⟨.ro [] 0 (fl && 0 == 0), ?_, ?_⟩
            · simp only [sliceV, hu, hsz, e1 hlo, e2 hhi]
              simp [sub]
            · simp only [Rep]
              exact .inl ⟨hb, by first | trivial | rfl, by first | trivial | rfl, _, rfl⟩
          · rw [hb] at hb'; cases hb'
        · rcases hr with ⟨hb, _⟩ | ⟨b, ver, nn, hb, rfl⟩
          · rw [hb] at hb'; cases hb'
          · have hb0 := hb
            rw [hb] at hb'
            injection hb' with hb'; injection hb' with hb'
            simp only [Prod.mk.injEq] at hb'
            obtain ⟨rfl, rfl, rfl⟩ := hb'
            refine ⟨.sl b ver (off * C.size k' + l * C.size k') (hh - l), ?_, ?_⟩
            · simp only [sliceV, hu, hsz, e1 hlo, e2 hhi, hB]
              rw [if_pos ⟨h3.1, h3.2, by first | trivial | rfl, by first | trivial | rfl⟩]
            · simp only [Rep]
              exact .inr ⟨b, ver, _, hb0, by rw [Nat.add_mul]⟩
      · cases h
    · cases h
  · rename_i e hu
    split at h
    · rename_i hsz
      obtain ⟨sz, hsz⟩ := Option.isSome_iff_exists.1 hsz
      obtain ⟨l, h1, e1⟩ := boundWK_sound (C := C) h
      obtain ⟨hh, h2, e2⟩ := boundWK_sound (C := C) h1
      obtain ⟨h3, h4⟩ := cond_some h2
      obtain ⟨rfl, rfl⟩ := of_decide_eq_true h3
      refine ⟨_, h4, fun S hr hlo hhi hmx => ?_⟩
      simp only [Rep] at hr; subst hr
      cases hmx
      refine ⟨.ro [] 0 (true && 0 == 0), ?_, by simp [Rep]⟩
      simp only [sliceV, hu, hsz, e1 hlo, e2 hhi]
      simp [sub]
    · cases h
  · cases h
end Go.Proofs.YtpdgbhjhodhkiaaGreatDoor.AI
