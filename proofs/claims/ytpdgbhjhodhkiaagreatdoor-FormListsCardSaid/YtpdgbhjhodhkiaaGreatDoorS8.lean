/- Addresses, slices, structs and arrays that are built. -/
import Derived.Test.YtpdgbhjhodhkiaaGreatDoorS7
set_option linter.unusedVariables false
set_option linter.unusedSimpArgs false
namespace Go.Proofs.YtpdgbhjhodhkiaaGreatDoor.AI
open Go
variable {kp : Kp}

section
variable {P : Program} {cx : Cx} {m : Mem} {w : World}

theorem sizeV_some {t : TypeId} {n : Nat} (h : sizeV P t = some n) : (sizeOf t).run P w = .ok n w := by
  unfold sizeV at h
  cases hi : P.info? t with
  | none => simp [hi] at h
  | some i =>
    simp only [hi, Option.map_some] at h
    injection h with h
    rw [r_size hi, h]

theorem padd_sound {p v : V} {cp : Value} {n : Nat} (hp : VRel cx w p cp) (h : padd p n = some v) : ∃ a, cp = .pointer (some a) ∧ VRel cx w v (.pointer (some (a.add n))) := by
  unfold padd at h
  split at h <;> try cases h
  · simp only [VRel] at hp ⊢
    obtain ⟨c, h1, rfl⟩ := hp
    exact ⟨_, rfl, c, h1, by rw [add_none]⟩
  · simp only [VRel] at hp ⊢
    obtain ⟨h1, h2, ⟨a, rfl⟩, h4⟩ := hp
    refine ⟨a, rfl, h1, h2, ⟨_, rfl⟩, fun e => ?_⟩
    have := h4 e
    injection this with this
    injection this with this
    rw [this, add_none]
  · simp only [VRel] at hp ⊢
    obtain ⟨blk, o, rfl, h2, h3, h4⟩ := hp
    exact ⟨_, rfl, blk, o, by rw [add_none, Nat.add_assoc], h2, h3, h4⟩

theorem fieldAddr_sound (S : Sim kp cx m w) {s : TypeId} {p v : V} {cp : Value} {f : Nat} (hp : VRel cx w p cp) (h : fieldAddrV P s p f = some v) : OpRes kp P cx m w v m (Instr.fieldAt s cp f) := by
  unfold fieldAddrV at h
  split at h
  · rename_i fields hd
    split at h
    · rename_i fd hf
      split at h
      · rename_i n hn
        split at h
        · cases h
        · rename_i hz
          obtain ⟨a, rfl, hv⟩ := padd_sound hp h
          refine OpRes.same S (cv := .pointer (some (a.add fd.offset))) ?_ hv
          simp [Instr.fieldAt, r_und hd, hf, Instr.sureAddr, fieldPlace, sizeV_some hn, hz]
      · cases h
    · cases h
  · cases h

theorem part_sound {t : TypeId} {cs : List V} {arr : Array Value} {off : Nat} {v : V} (hc : VRelL cx w cs arr.toList) (h : partV P t cs off = some v) : ∃ cv, (part t arr off).run P w = .ok cv w ∧ VRel cx w v cv := by
  unfold partV at h
  split at h
  · rename_i i d hi hd
    split at h
    · rename_i ha
      cases hs : sub cs off i.size with
      | none => simp [hs] at h
      | some l =>
        simp only [hs, Option.map_some] at h
        injection h with h
        subst h
        obtain ⟨h1, rfl, h3⟩ := sub_some hs
        refine ⟨.agg (arr.extract off (off + i.size)), by simp [part, r_agg hd, ha, r_size hi], _, rfl, ?_⟩
        have := VRelL.take i.size (VRelL.drop off hc)
        simpa [List.extract_eq_take_drop] using this
    · rename_i ha
      obtain ⟨cv, h1, h2⟩ := VRelL.get off hc h
      have h1' : arr[off]? = some cv := by simpa using h1
      exact ⟨cv, by simp [part, r_agg hd, ha, h1'], h2⟩
  · cases h

theorem field_sound (S : Sim kp cx m w) {t : TypeId} {x v : V} {cv : Value} {f : Nat} (hx : VRel cx w x cv) (h : fieldV P t x f = some v) : OpRes kp P cx m w v m (Instr.field t cv f) := by
  unfold fieldV at h
  split at h
  · rename_i fields cs hd
    split at h
    · rename_i fd hf
      simp only [VRel] at hx
      obtain ⟨arr, rfl, hc⟩ := hx
      obtain ⟨r, h1, h2⟩ := part_sound (P := P) hc h
      exact OpRes.same S (cv := r) (by simp [Instr.field, r_und hd, hf, asAgg, h1]) h2
    · cases h
  · cases h

theorem index_sound (S : Sim kp cx m w) {t : TypeId} {x ix v : V} {cx' ci : Value} (hx : VRel cx w x cx') (hi : VRel cx w ix ci) (h : indexV P t x ix = some v) : OpRes kp P cx m w v m (Instr.index t cx' ci) := by
  unfold indexV at h
  split at h
  · rename_i s k i hd
    split at h
    · rename_i h0
      simp only [VRel] at hx hi
      subst hx hi
      cases hb : byteAt s i.toNat with
      | none => simp [hb] at h
      | some b =>
        simp only [hb, Option.map_some] at h
        injection h with h
        subst h
        have hb' : s[i.toNat]? = some b := by
          unfold byteAt at hb
          have hl := (List.getElem?_eq_some_iff.1 hb)
          obtain ⟨h1, h2⟩ := hl
          have h3 : i.toNat < s.size := by
            rw [Array.length_toList] at h1
            exact h1
          rw [getElem?_pos s i.toNat h3]
          congr 1
        refine OpRes.same S (cv := .int .u8 b.toNat) ?_ (by simp [VRel])
        simp [Instr.index, asIntOf, r_und hd, h0, hb']
    · cases h
  · rename_i len e cs k i hd
    split at h
    · rename_i sz hs
      split at h
      · rename_i hb
        simp only [VRel] at hx hi
        subst hi
        obtain ⟨arr, rfl, hc⟩ := hx
        obtain ⟨r, h1, h2⟩ := part_sound (P := P) hc h
        exact OpRes.same S (cv := r) (by simp [Instr.index, asIntOf, r_und hd, hb, sizeV_some hs, h1]) h2
      · cases h
    · cases h
  · cases h

theorem indexAddr_sound (S : Sim kp cx m w) {t : TypeId} {x ix v : V} {cx' ci : Value} (hx : VRel cx w x cx') (hi : VRel cx w ix ci) (h : indexAddrV P t x ix = some v) : OpRes kp P cx m w v m (Instr.indexAt t cx' ci) := by
  unfold indexAddrV at h
  split at h
  · rename_i e k i hd
    simp only [VRel] at hi
    subst hi
    split at h
    · rename_i sz b ver off len hs
      split at h
      · rename_i hb
        injection h with h
        subst h
        simp only [VRel] at hx
        obtain ⟨h1, h2, a, cap, rfl, h4, h45, h5⟩ := hx
        have hcap : cap ≠ 0 := by omega
        cases a with
        | none => simp [hcap] at h45
        | some a =>
          refine OpRes.same S (cv := .pointer (some (a.add (i.toNat * sz)))) ?_ ?_
          · simp [Instr.indexAt, asIntOf, r_und hd, hb, sizeV_some hs]
          · simp only [VRel]
            refine ⟨h1, h2, ⟨_, rfl⟩, fun e => ?_⟩
            rcases (h5 e).2 with h5 | h5
            · exact absurd h5 hcap
            · injection h5 with h5
              rw [h5, add_none]
      · cases h
    · rename_i sz cells n full hs
      split at h
      · rename_i hb
        injection h with h
        subst h
        simp only [VRel] at hx
        obtain ⟨a, cap, rfl, _, _, hr⟩ := hx
        rcases hr with rfl | ⟨blk, o, rfl, h2, h3, h4⟩
        · simp at hb
        · refine OpRes.same S (cv := .pointer (some ((⟨blk, o, none⟩ : Addr).add (i.toNat * sz)))) ?_ ?_
          · simp [Instr.indexAt, asIntOf, r_und hd, hb.1, hb.2.1, sizeV_some hs]
          · simp only [VRel]
            exact ⟨blk, o, by rw [add_none], h2, h3, h4⟩
      · cases h
    · cases h
  · rename_i len e k i hd
    simp only [VRel] at hi
    subst hi
    split at h
    · rename_i sz hs
      split at h
      · rename_i hb
        obtain ⟨a, rfl, hv⟩ := padd_sound hx h
        refine OpRes.same S (cv := .pointer (some (a.add (i.toNat * sz)))) ?_ hv
        simp [Instr.indexAt, asIntOf, r_und hd, Instr.sureAddr, hb, sizeV_some hs]
      · cases h
    · cases h
  · cases h

/-! ### Slice expressions -/
def ORel (cx : Cx) (w : World) : Option V → Option Value → Prop
  | none, none => True
  | some x, some c => VRel cx w x c
  | _, _ => False
theorem bound_sound {x : Option V} {c : Option Value} {d l : Nat} (hx : ORel cx w x c) (h : boundV x d = some l) : (x = none ∧ c = none ∧ l = d) ∨ ∃ v, x.isSome = true ∧ c = some v ∧ ∀ y code, l ≤ y → (Instr.sliceBound v y code).run P w = .ok l w := by
  cases x with
  | none =>
    cases c with
    | none =>
      simp only [boundV] at h
      injection h with h
      exact .inl ⟨rfl, rfl, h.symm⟩
    | some v => simp [ORel] at hx
  | some x =>
    cases c with
    | none => simp [ORel] at hx
    | some v =>
      simp only [ORel] at hx
      unfold boundV at h
      split at h <;> try cases h
      · simp at *
      · rename_i k i he
        injection he with he
        subst he
        split at h
        · rename_i h0
          injection h with h
          subst h
          simp only [VRel] at hx
          subst hx
          refine .inr ⟨_, rfl, rfl, fun y code hy => ?_⟩
          have : i ≤ (y : Int) := by omega
          simp [Instr.sliceBound, asIntOf, h0, this]
        · cases h
theorem bounds_none {lo hi : Option V} {clo chi : Option Value} {l h len cap : Nat} (b : Bool) (hlo : ORel cx w lo clo) (hhi : ORel cx w hi chi) (h1 : boundV lo 0 = some l) (h2 : boundV hi len = some h) (hlh : l ≤ h) (hlen : len ≤ cap) (hc : h ≤ len) :
    (Instr.sliceBounds b len cap clo chi none).run P w = .ok (l, h, cap) w := by
  rcases bound_sound (P := P) hhi h2 with ⟨_, rfl, rfl⟩ | ⟨v, _, rfl, hv⟩ <;> rcases bound_sound (P := P) hlo h1 with ⟨_, rfl, rfl⟩ | ⟨u, _, rfl, hu⟩
  · simp [Instr.sliceBounds]
  · simp [Instr.sliceBounds, hu _ _ hlh]
  · simp [Instr.sliceBounds, hv _ _ (show h ≤ cap by omega)]
  · simp [Instr.sliceBounds, hv _ _ (show h ≤ cap by omega), hu _ _ hlh]
theorem bounds_some {lo hi : Option V} {clo chi : Option Value} {mv : V} {cm : Value} {l h k len cap : Nat} (b : Bool) (hlo : ORel cx w lo clo) (hhi : ORel cx w hi chi) (hm : VRel cx w mv cm) (h1 : boundV lo 0 = some l) (h2 : boundV hi len = some h) (h3 : boundV (some mv) 0 = some k)
    (hs : hi.isSome = true) (hlh : l ≤ h) (hhk : h ≤ k) (hk : k ≤ cap) : (Instr.sliceBounds b len cap clo chi (some cm)).run P w = .ok (l, h, k) w := by
  have hmm : ∀ code, (Instr.sliceBound cm cap code).run P w = .ok k w := by
    intro code
    rcases bound_sound (P := P) (c := some cm) (by simpa [ORel] using hm) h3 with ⟨h, _⟩ | ⟨v, _, e, hv⟩
    · cases h
    · injection e with e
      subst e
      exact hv _ _ hk
  rcases bound_sound (P := P) hhi h2 with ⟨rfl, _, _⟩ | ⟨v, _, rfl, hv⟩
  · simp at hs
  · rcases bound_sound (P := P) hlo h1 with ⟨_, rfl, rfl⟩ | ⟨u, _, rfl, hu⟩
    · simp [Instr.sliceBounds, hmm, hv _ _ hhk]
    · simp [Instr.sliceBounds, hmm, hv _ _ hhk, hu _ _ hlh]

theorem ro_sub {cells cs : List V} {n k : Nat} {b' : Bool} {a : Option Addr} {off c2 : Nat} (hr : cells = [] ∨ ∃ blk o, a = some ⟨blk, o, none⟩ ∧ blk < w.heap.size ∧ cx.own blk = .non ∧ RowRel cx w cells blk o) (hs : sub cells off n = some cs) (hkc : k ≤ c2) (hb : b' = true → c2 = k) (hz : c2 = 0 → n = 0) :
    VRel cx w (.ro cs k b') (.slice (if c2 = 0 then a else a.map (·.add off)) k c2) := by
  obtain ⟨h1, rfl, h3⟩ := sub_some hs
  simp only [VRel]
  refine ⟨_, c2, rfl, hkc, hb, ?_⟩
  rcases hr with rfl | ⟨blk, o, rfl, h4, h5, h6⟩
  · left; simp
  · by_cases hc : c2 = 0
    · left
      have := hz hc
      subst this
      simp
    · right
      rw [if_neg hc]
      refine ⟨blk, o + off, by simp [add_none], h4, h5, RowRel.take n (RowRel.drop off (by omega) h6)⟩

theorem slice_sound (S : Sim kp cx m w) {t : TypeId} {x v : V} {lo hi mx : Option V} {cv : Value} {clo chi cmx : Option Value} (hx : VRel cx w x cv) (hlo : ORel cx w lo clo) (hhi : ORel cx w hi chi) (hmx : ORel cx w mx cmx)
    (h : sliceV P m t x lo hi mx = some v) : OpRes kp P cx m w v m (Instr.sliceAt t cv clo chi cmx) := by
  unfold sliceV at h
  split at h
  · rename_i s hd
    split at h
    · rename_i l k h1 h2
      cases cmx with
      | some _ => simp [ORel] at hmx
      | none =>
        split at h
        · rename_i hb
          injection h with h
          subst h
          simp only [VRel] at hx
          subst hx
          have := bounds_none (P := P) false hlo hhi h1 h2 hb.1 (Nat.le_refl _) hb.2
          exact OpRes.same S (cv := .string (s.extract l k)) (by simp [Instr.sliceAt, Instr.slice, r_und hd, this]) (by simp [VRel])
        · cases h
    · cases h
  · rename_i e cells n full hd
    simp only [VRel] at hx
    obtain ⟨a, cap, rfl, hnc, hf, hr⟩ := hx
    split at h
    · rename_i sz l k hsz h1 h2
      cases cmx with
      | some _ => simp [ORel] at hmx
      | none =>
        split at h
        · rename_i hb
          cases hs : sub cells (l * sz) ((k - l) * sz) with
          | none => simp [hs] at h
          | some cs =>
            simp only [hs, Option.map_some] at h
            injection h with h
            subst h
            have := bounds_none (P := P) true hlo hhi h1 h2 hb.1 hnc hb.2
            refine OpRes.same S (cv := .slice (if cap = l then a else a.map (·.add (l * sz))) (k - l) (cap - l)) (by simp [Instr.sliceAt, Instr.slice, r_und hd, this, sizeV_some hsz]) ?_
            have e : (if cap = l then a else a.map (·.add (l * sz))) = (if cap - l = 0 then a else a.map (·.add (l * sz))) := by
              by_cases e : cap = l
              · rw [if_pos e, if_pos (by omega)]
              · rw [if_neg e, if_neg (by omega)]
            rw [e]
            refine ro_sub hr hs (by omega) (fun hb' => ?_) (fun h0 => by
              have : k - l = 0 := by omega
              rw [this]; simp)
            simp only [Bool.and_eq_true, beq_iff_eq] at hb'
            have := hf hb'.1
            omega
        · cases h
    · rename_i sz l k mv hsz h1 h2
      split at h
      · rename_i mm h3
        cases cmx with
        | none => simp [ORel] at hmx
        | some cm =>
          simp only [ORel] at hmx
          split at h
          · rename_i hb
            cases hs : sub cells (l * sz) ((k - l) * sz) with
            | none => simp [hs] at h
            | some cs =>
              simp only [hs, Option.map_some] at h
              injection h with h
              subst h
              have := bounds_some (P := P) true hlo hhi hmx h1 h2 h3 hb.2.2.2 hb.1 hb.2.1 (Nat.le_trans hb.2.2.1 hnc)
              refine OpRes.same S (cv := .slice (if mm = l then a else a.map (·.add (l * sz))) (k - l) (mm - l)) (by simp [Instr.sliceAt, Instr.slice, r_und hd, this, sizeV_some hsz]) ?_
              have e : (if mm = l then a else a.map (·.add (l * sz))) = (if mm - l = 0 then a else a.map (·.add (l * sz))) := by
                by_cases e : mm = l
                · rw [if_pos e, if_pos (by omega)]
                · rw [if_neg e, if_neg (by omega)]
              rw [e]
              refine ro_sub hr hs (by omega) (fun hb' => ?_) (fun h0 => by
                have : k - l = 0 := by omega
                rw [this]; simp)
              simp only [beq_iff_eq] at hb'
              omega
          · cases h
      · cases h
    · cases h
  · rename_i e b ver off len hd
    split at h
    · rename_i sz l k hsz h1 h2
      cases cmx with
      | some _ => simp [ORel] at hmx
      | none =>
        split at h
        · rename_i sz' ver' pu fz cs hB
          split at h
          · rename_i hb
            injection h with h
            subst h
            simp only [VRel] at hx
            obtain ⟨g1, g2, a, cap, rfl, g4, g45, g5⟩ := hx
            have hbb := S.B b _ hB
            simp only [BOk] at hbb
            have hfb : (cx.fb b).2.1 = sz := by rw [hbb.2.1]; exact hb.2.2.1.symm
            have := bounds_none (P := P) true hlo hhi h1 h2 hb.1 g4 hb.2.1
            refine OpRes.same S (cv := .slice (if cap = l then a else a.map (·.add (l * sz))) (k - l) (cap - l)) (by simp [Instr.sliceAt, Instr.slice, r_und hd, this, sizeV_some hsz]) ?_
            simp only [VRel]
            refine ⟨g1, g2, _, _, rfl, by omega, ?_, fun e => ?_⟩
            · by_cases e : cap = l
              · left; omega
              · right
                rw [if_neg e]
                rcases g45 with g45 | g45
                · omega
                · simpa using g45
            · obtain ⟨g6, g7⟩ := g5 e
              rw [hfb] at g6 ⊢
              have hlc : l * sz ≤ cap * sz := Nat.mul_le_mul_right _ (by omega)
              refine ⟨by rw [← g6, Nat.sub_mul]; omega, ?_⟩
              by_cases e2 : cap = l
              · left; omega
              · right
                rw [if_neg e2]
                rcases g7 with g7 | ha
                · omega
                · subst ha
                  simp [add_none]
          · cases h
        · cases h
    · cases h
  · rename_i e hd
    simp only [VRel] at hx
    subst hx
    split at h
    · rename_i sz hsz h1 h2 h3
      split at h
      · rename_i hi'
        injection h with h
        subst h
        cases cmx with
        | none =>
          cases mx with
          | some _ => simp [ORel] at hmx
          | none =>
            have := bounds_none (P := P) (len := 0) (cap := 0) true hlo hhi h1 h2 (Nat.le_refl _) (Nat.le_refl _) (Nat.le_refl _)
            exact OpRes.same S (cv := .slice none 0 0) (by simp [Instr.sliceAt, Instr.slice, r_und hd, this, sizeV_some hsz]) (by simp [VRel])
        | some cm =>
          cases mx with
          | none => simp [ORel] at hmx
          | some mv =>
            simp only [ORel] at hmx
            have := bounds_some (P := P) (len := 0) (cap := 0) true hlo hhi hmx h1 h2 h3 (hi' rfl) (Nat.le_refl _) (Nat.le_refl _) (Nat.le_refl _)
            exact OpRes.same S (cv := .slice none 0 0) (by simp [Instr.sliceAt, Instr.slice, r_und hd, this, sizeV_some hsz]) (by simp [VRel])
      · cases h
    · cases h
  · cases h
end
end Go.Proofs.YtpdgbhjhodhkiaaGreatDoor.AI
