/-
  A region that draws its order, in which what makes or writes memory stands in one order alone, and all else reads: one walk serves every order, the readers as early as may be. What the readers read must stand till the last of them has come up, and no longer.
-/
import Derived.Test.YticpjjmacmmpjaaGreatDoorRows
import Derived.WalkKit
import Derived.BigQuiet
import Derived.OrdersHeld
import Derived.Deep.RegionHeld3
set_option linter.unusedSimpArgs false
set_option linter.unusedVariables false
set_option maxRecDepth 100000
set_option linter.unnecessarySimpa false
namespace Go.Proofs.YticpjjmacmmpjaaGreatDoor
/-- the worlds of a class, as values of a type: so that what holds of each of them is a rule without a premise -/
structure InC (S : World → Prop) where
  w : World
  h : S w
theorem wp_region_class {P : Program} {id : Nat} {Q : Exit → Act → World → Prop} {a : Act} {w : World} {l : List Oper} (S : World → Prop) (hm : P.follows .mixedOrders = true)
   (hB : Region.lexB .any l.toArray = true) (hS : S w.drew)
   (h : wpQuiet P l.toArray (fun w' => ∃ p : InC S, w' = p.w) (fun a' => ∀ p : InC S, Q .normal a' p.w) l a) : (Code.region id l.toArray true).wp P Q a w := by
  refine wp_region_quiet (C := fun w' => ∃ p : InC S, w' = p.w) hm hB ⟨⟨_, hS⟩, rfl⟩ ?_
  have hmono : ∀ (l' : List Oper) (a : Act), wpQuiet P l.toArray (fun w' => ∃ p : InC S, w' = p.w) (fun a' => ∀ p : InC S, Q .normal a' p.w) l' a →
      wpQuiet P l.toArray (fun w' => ∃ p : InC S, w' = p.w) (fun a' => ∀ w', (∃ p : InC S, w' = p.w) → Q .normal a' w') l' a := by
    intro l'
    induction l' with
    | nil => intro a h w' ⟨p, hp⟩; rw [hp]; exact h p
    | cons o rest ih =>
      intro a h
      unfold wpQuiet at h ⊢
      split
      · rename_i hw; rw [if_pos hw] at h; exact Oper.quiet_mono ih h
      · rename_i hw; rw [if_neg hw] at h; exact ih _ h
  exact hmono _ _ h
end Go.Proofs.YticpjjmacmmpjaaGreatDoor
namespace Go.Proofs.YticpjjmacmmpjaaGreatDoor
section
variable {P : Program} {ops : Array Oper} {Q : Exit → Act → World → Prop} {md : Region.Mode} {S : World → Prop} {rd : List Nat}

/-- does j wait, be it through others, for r? -/
def reach (md : Region.Mode) (ops : Array Oper) : Nat → Nat → Nat → Bool
  | 0, _, _ => false
  | n + 1, j, r => match ops[j]? with
    | none => false
    | some o => o.after.any fun e => Region.binds md e && (e.on == r || reach md ops n e.on r)
/-- is there a reader that may come up behind j? -/
def keepB (md : Region.Mode) (ops : Array Oper) (rd : List Nat) (j : Nat) : Bool := rd.any fun r => r != j && !reach md ops ops.size j r
/-- what has come up has come up behind all that it waits for -/
def ClosedL (md : Region.Mode) (ops : Array Oper) (listed : Array Bool) : Prop :=
  ∀ (j : Nat) (o : Oper), ops[j]? = some o → listed.getD j false = true → ∀ e ∈ o.after, Region.binds md e = true → listed.getD e.on false = true

theorem reach_listed {listed : Array Bool} (hc : ClosedL md ops listed) : ∀ (n j r : Nat) (o : Oper), ops[j]? = some o → (∀ e ∈ o.after, Region.binds md e = true → listed.getD e.on false = true) → reach md ops n j r = true → listed.getD r false = true
  | 0, _, _, _, _, _, h => by simp [reach] at h
  | n + 1, j, r, o, ho, hall, h => by
    simp only [reach, ho] at h
    obtain ⟨e, he, hb⟩ := Array.any_eq_true'.1 h
    simp only [Bool.and_eq_true, Bool.or_eq_true, beq_iff_eq] at hb
    obtain ⟨hb1, hb2⟩ := hb
    have hle := hall e he hb1
    rcases hb2 with hb2 | hb2
    · rw [← hb2]; exact hle
    · cases hoe : ops[e.on]? with
      | none => cases n <;> simp [reach, hoe] at hb2
      | some oe => exact reach_listed hc n e.on r oe hoe (hc e.on oe hoe hle) hb2

theorem getD_ft {listed : Array Bool} {i : Nat} (h : listed.getD i true = false) : listed.getD i false = false := by
  rcases Nat.lt_or_ge i listed.size with h' | h'
  · simpa [h'] using h
  · simp [Array.getElem?_eq_none h']

theorem keepB_of {listed : Array Bool} (hc : ClosedL md ops listed) {i j : Nat} (hi : i ∈ rd) (hun : listed.getD i true = false) (hj : j ∈ Region.ready md ops listed) (hji : j ≠ i) : keepB md ops rd j = true := by
  obtain ⟨_, oj, hoj, hall⟩ := mem_ready.1 hj
  unfold keepB
  rw [List.any_eq_true]
  refine ⟨i, hi, ?_⟩
  simp only [Bool.and_eq_true, bne_iff_ne, Bool.not_eq_true']
  refine ⟨Ne.symm hji, ?_⟩
  cases hr : reach md ops ops.size j i with
  | false => rfl
  | true =>
    have := reach_listed hc _ _ _ _ hoj hall hr
    rw [getD_ft hun] at this
    cases this

theorem closedL_set {listed : Array Bool} (hc : ClosedL md ops listed) {j : Nat} (hj : j ∈ Region.ready md ops listed) : ClosedL md ops (listed.setIfInBounds j true) := fun k o ho hk e he hb => by
  obtain ⟨hun, oj, hoj, hall⟩ := mem_ready.1 hj
  refine getD_set_true ?_
  by_cases hkj : j = k
  · subst hkj
    obtain rfl := Option.some.inj (hoj.symm.trans ho)
    exact hall e he hb
  · rw [getD_set_ne false hkj] at hk
    exact hc k o ho hk e he hb

/-- whatever order is picked from here on, and S holds behind each operation behind which a reader may come up -/
def wpAnyD (P : Program) (md : Region.Mode) (ops : Array Oper) (Q : Exit → Act → World → Prop) (S : World → Prop) (rd : List Nat) : Nat → Array Bool → Act → World → Prop
  | 0, listed, a, w => Region.ready md ops listed = [] ∧ Q .normal a w
  | fuel + 1, listed, a, w =>
    (Region.ready md ops listed = [] → Q .normal a w) ∧
    ∀ i ∈ Region.ready md ops listed, wpOp P ops Q i (fun a' w' => (keepB md ops rd i = true → S w') ∧ wpAnyD P md ops Q S rd fuel (listed.setIfInBounds i true) a' w') a w

theorem wpAny_of_D : ∀ (fuel : Nat) (listed : Array Bool) (a : Act) (w : World), wpAnyD P md ops Q S rd fuel listed a w → wpAny P md ops Q fuel listed a w
  | 0, _, _, _, h => h
  | fuel + 1, _, _, _, h => ⟨h.1, fun i hi => wpOp_mono (fun a' w' h' => wpAny_of_D fuel _ a' w' h'.2) (h.2 i hi)⟩

theorem wpAnyD_first {i : Nat} {oi : Oper} {v : Value} (hi : ops[i]? = some oi) (hrd : i ∈ rd) (hsel : ∀ (j : Nat) (o : Oper) cs b, ops[j]? = some o → o.op ≠ .select cs b)
    (hQ : ∀ c a w, Q (.panic c) (a.put oi.dst v) w → Q (.panic c) a w) :
    ∀ (fuel : Nat) (listed : Array Bool) (a : Act) (w : World), ClosedL md ops listed →
      (∀ j oj, ops[j]? = some oj → j ≠ i → listed.getD j true = false → (∀ e ∈ oj.after, Region.binds md e = true → e.on ≠ i) → oi.apart ops oj = true) →
      i ∈ Region.ready md ops listed → YieldsIf P ops S oi v a → S w →
      wpAnyD P md ops Q S rd fuel (listed.setIfInBounds i true) (a.put oi.dst v) w → wpAnyD P md ops Q S rd (fuel + 1) listed a w := by
  intro fuel
  induction fuel with
  | zero =>
    intro listed a w hcl _ hr hy hS H
    refine ⟨fun h => (by rw [h] at hr; cases hr), fun j hj => ?_⟩
    by_cases hji : j = i
    · subst hji; exact hy.wpOp hi hS ⟨fun _ => hS, H⟩
    · have := ready_mono hj hji
      rw [H.1] at this
      cases this
  | succ fuel ih =>
    intro listed a w hcl hfree hr hy hS H
    refine ⟨fun h => (by rw [h] at hr; cases hr), fun j hj => ?_⟩
    by_cases hji : j = i
    · subst hji; exact hy.wpOp hi hS ⟨fun _ => hS, H⟩
    · have h1 := H.2 j (ready_mono hj hji)
      obtain ⟨hjun, oj, hoj, hall⟩ := mem_ready.1 hj
      have hnot : ∀ e ∈ oj.after, Region.binds md e = true → e.on ≠ i := fun e he hb heq => by
        have h1 := hall e he hb
        have h0 := (mem_ready.1 hr).1
        rw [heq] at h1
        rw [getD_ft h0] at h1
        cases h1
      have h2 := wpOp_putIf hoj (hfree j oj hoj hji hjun hnot) (fun cs b => hsel i oi cs b hi) (fun cs b => hsel j oj cs b hoj) hQ hy h1
      have hfree' : ∀ k ok, ops[k]? = some ok → k ≠ i → (listed.setIfInBounds j true).getD k true = false →
          (∀ e ∈ ok.after, Region.binds md e = true → e.on ≠ i) → oi.apart ops ok = true := fun k ok hk hki hun hno => by
        refine hfree k ok hk hki ?_ hno
        by_cases hjk : j = k
        · subst hjk; exact hjun
        · rw [getD_set_ne true hjk] at hun; exact hun
      have hk := keepB_of hcl hrd (mem_ready.1 hr).1 hj hji
      refine wpOp_mono (fun a' w' h3 => ⟨h3.2.1, ih (listed.setIfInBounds j true) a' w' (closedL_set hcl hj) hfree' (ready_mono hr (Ne.symm hji)) h3.1 (h3.2.1 hk) ?_⟩) h2
      rw [Array.setIfInBounds_comm _ _ hji]
      exact h3.2.2

/-- an operation that may be a reader: it neither enters a function nor skips -/
def readB (o : Oper) : Bool := match o.op with
  | .move _ | .assign _ | .pick .. | .load .. | .binOp .. | .unOp .. | .convert .. | .slice .. | .fieldAddr .. | .nilCheck .. | .field .. | .indexAddr .. | .index .. | .extract .. => true
  | .call { callee := .builtin .len, .. } => true
  | _ => false

theorem sem_value {s : Sem Value} {w w' : World} {n : Next} (h : (do pure (Next.value (← s)) : Sem Next).run P w = .ok n w') : ∃ v, n = .value v := by
  rw [Sem.run_bind] at h
  cases hs : s.run P w with
  | ok v w1 => rw [hs] at h; simp at h; exact ⟨v, h.1.symm⟩
  | halt x w1 => rw [hs] at h; simp [Result.andThen] at h

theorem read_value {o : Oper} (hr : readB o = true) {ρ : Operand → Value} {w w' : World} {n : Next} (h : (execOp ρ o).run P w = .ok n w') : ∃ v, n = .value v := by
  obtain ⟨dst, op, ty, pos, after, guard⟩ := o
  cases op with
  | call c =>
    obtain ⟨callee, args, tys⟩ := c
    cases callee with
    | builtin b =>
      cases b <;> simp [readB] at hr
      unfold execOp at h
      simp only [resolve, Sem.run_bind, Sem.run_pure, Result.andThen_ok] at h
      exact sem_value h
    | value f => simp [readB] at hr
    | invoke r m => simp [readB] at hr
  | pick c a b =>
    unfold execOp at h
    rw [Sem.run_bind] at h
    cases hs : (asBool (ρ c)).run P w with
    | ok v w1 => rw [hs] at h; simp at h; exact ⟨_, h.1.symm⟩
    | halt x w1 => rw [hs] at h; simp [Result.andThen] at h
  | move x => unfold execOp at h; simp at h; exact ⟨_, h.1.symm⟩
  | assign x => unfold execOp at h; simp at h; exact ⟨_, h.1.symm⟩
  | load t x => exact sem_value h
  | binOp b t x y u => exact sem_value h
  | unOp b t x => exact sem_value h
  | convert s d x => exact sem_value h
  | slice t x l m k => exact sem_value h
  | fieldAddr t x f => exact sem_value h
  | nilCheck x =>
    unfold execOp at h
    simp only at h
    split at h
    · simp [runtimePanic] at h
    · simp [runtimePanic] at h
    · simp [runtimePanic] at h
    · split at h
      · simp [runtimePanic] at h
      · simp only [Sem.run_bind, run_program, Result.andThen_ok] at h
        generalize hq : Sem.run P (nilAhead _ _ _ _) w = q at h
        cases q with
        | halt y w1 => simp [Result.andThen] at h
        | ok b w1 =>
          simp only [Result.andThen_ok] at h
          split at h
          · simp [unsupported] at h
          · simp at h; exact ⟨_, h.1.symm⟩
      · simp at h; exact ⟨_, h.1.symm⟩
    · simp at h; exact ⟨_, h.1.symm⟩
  | field t x f => exact sem_value h
  | indexAddr t x f => exact sem_value h
  | index t x f => exact sem_value h
  | extract t x => exact sem_value h
  | _ => simp [readB] at hr

/-- S behind the operation, if a reader may come up behind it; what stands behind the region only where it ends otherwise -/
def mixPost (Q : Exit → Act → World → Prop) (k : Bool) (S : World → Prop) (K : Act → World → Prop) : Exit → Act → World → Prop
  | .normal, a, w => (k = true → S w) ∧ K a w
  | e, a, w => Q e a w
/-- the walk in a given order -/
def wpMix (P : Program) (md : Region.Mode) (ops : Array Oper) (Q : Exit → Act → World → Prop) (S : World → Prop) (rd : List Nat) : List Nat → Act → World → Prop
  | [], a, w => Q .normal a w
  | i :: rest, a, w => match ops[i]? with
    | none => False
    | some o => if rd.contains i = true then wpQuiet P ops (fun w' => ∃ p : InC S, w' = p.w) (fun a' => wpMix P md ops Q S rd rest a' w) [o] a
      else wpList P ops (mixPost Q (keepB md ops rd i) S (wpMix P md ops Q S rd rest)) [o] a w

def ordOk (md : Region.Mode) (ops : Array Oper) (rd : List Nat) : List Nat → Array Bool → Bool
  | [], listed => (Region.ready md ops listed).isEmpty
  | i :: rest, listed => (if rd.contains i then (Region.ready md ops listed).contains i && Region.free md ops listed i else Region.ready md ops listed == [i]) && ordOk md ops rd rest (listed.setIfInBounds i true)
def mixB (md : Region.Mode) (ops : Array Oper) (rd ord : List Nat) : Bool :=
  Region.noSelect ops && rd.all (fun i => match ops[i]? with | some o => readB o | none => false) && ord.length == ops.size && ordOk md ops rd ord (Array.replicate ops.size false)

theorem Oper.wp_post {o : Oper} {a : Act} {w : World} {K : Act → World → Prop} {Q Q' : Exit → Act → World → Prop} (hQ : ∀ e a w, e ≠ .normal → Q e a w → Q' e a w) (h : o.wp P a w K Q) : o.wp P a w K Q' := by
  unfold Oper.wp at *
  generalize (execOp a.eval o).run P w = r at *
  cases r with
  | ok n w' =>
    cases n <;> simp only [Oper.upon] at h ⊢ <;>
      first
        | exact h
        | exact Calls.mono h (fun e w'' he => by
            cases e with
            | returned v => exact he
            | panicked c => exact hQ _ _ _ (by simp) he
            | outgrown => exact Exists.elim he fun a1 he => Exists.elim he fun w1 he => ⟨a1, w1, hQ _ _ _ (by simp) he⟩)
  | halt x w' => cases x <;> simp only [Oper.upon] at h ⊢ <;> first | exact h | exact hQ _ _ _ (by simp) h

theorem wpAnyD_of_mix (hs : Region.noSelect ops = true) (hrd : ∀ i ∈ rd, ∃ o, ops[i]? = some o ∧ readB o = true) (hQ : ∀ c a d v w, Q (.panic c) (a.put d v) w → Q (.panic c) a w) :
    ∀ (ord : List Nat) (listed : Array Bool) (a : Act) (w : World), ClosedL md ops listed → ordOk md ops rd ord listed = true → ((∃ r ∈ ord, r ∈ rd) → S w) → wpMix P md ops Q S rd ord a w →
      wpAnyD P md ops Q S rd ord.length listed a w
  | [], listed, a, w, _, hB, _, h => ⟨by simpa [ordOk] using hB, h⟩
  | i :: rest, listed, a, w, hcl, hB, hS, h => by
    simp only [ordOk, Bool.and_eq_true] at hB
    obtain ⟨hB1, hB2⟩ := hB
    unfold wpMix at h
    by_cases hr : rd.contains i = true
    · rw [if_pos hr] at hB1
      simp only [Bool.and_eq_true, List.contains_iff_mem] at hB1
      have hmem : i ∈ rd := by simpa using hr
      obtain ⟨o, ho, hro⟩ := hrd i hmem
      simp only [ho, if_pos hr] at h
      have hSw : S w := hS ⟨i, by simp, hmem⟩
      have hfst : ∀ v, YieldsIf P ops S o v a → wpMix P md ops Q S rd rest (a.put o.dst v) w → wpAnyD P md ops Q S rd (rest.length + 1) listed a w := fun v hy hk =>
        wpAnyD_first ho hmem (Region.noSelect_spec hs) (fun c a w hq => hQ c a o.dst v w hq) rest.length listed a w hcl (Region.free_spec ho hB1.2) hB1.1 hy hSw
          (wpAnyD_of_mix hs hrd hQ rest _ _ w (closedL_set hcl hB1.1) hB2 (fun _ => hSw) hk)
      unfold wpQuiet at h
      split at h
      · rename_i hw
        obtain ⟨v, hv, hn⟩ := h
        refine hfst v (.inl ⟨hw, fun w' hw' => ?_⟩) hn
        have h1 := hv w' ⟨⟨w', hw'⟩, rfl⟩
        unfold Oper.quietAt at h1
        generalize hres : (execOp a.eval o).run P w' = res at *
        cases res with
        | ok n w'' =>
          obtain ⟨u, rfl⟩ := read_value hro hres
          simp only [Oper.quietUpon] at h1
          rw [h1.1, h1.2]
        | halt x w'' => simp only [Oper.quietUpon] at h1
      · rename_i hw
        exact hfst undef (.inr ⟨by simpa using hw, rfl⟩) h
    · rw [if_neg hr] at hB1
      have hready : Region.ready md ops listed = [i] := by simpa using hB1
      have hi : i ∈ Region.ready md ops listed := by rw [hready]; simp
      obtain ⟨hun, o, ho, hall⟩ := mem_ready.1 hi
      simp only [ho, if_neg hr] at h
      have hnext : ∀ a' w', ((keepB md ops rd i = true → S w') ∧ wpMix P md ops Q S rd rest a' w') →
          (keepB md ops rd i = true → S w') ∧ wpAnyD P md ops Q S rd rest.length (listed.setIfInBounds i true) a' w' := fun a' w' hh => by
        refine ⟨hh.1, wpAnyD_of_mix hs hrd hQ rest _ a' w' (closedL_set hcl hi) hB2 (fun ⟨r, hr1, hr2⟩ => hh.1 ?_) hh.2⟩
        have hri : r ≠ i := fun e => hr (by rw [← e]; simpa using hr2)
        have hne : i ≠ r := fun e => hri e.symm
        -- r is in the rest, so it has not come up
        have hrun : listed.getD r true = false := by
          have key : ∀ (l : List Nat) (li : Array Bool), ordOk md ops rd l li = true → r ∈ l → li.getD r true = false := by
            intro l
            induction l with
            | nil => intro li _ hm; simp at hm
            | cons k l ih =>
              intro li hb hm
              simp only [ordOk, Bool.and_eq_true] at hb
              rcases List.mem_cons.1 hm with e | hm'
              · subst e
                have hc1 : rd.contains r = true := by simpa using hr2
                rw [if_pos hc1] at hb
                simp only [Bool.and_eq_true, List.contains_iff_mem] at hb
                exact (mem_ready.1 hb.1.1).1
              · have := ih _ hb.2 hm'
                by_cases hkr : k = r
                · subst hkr
                  rcases Nat.lt_or_ge k li.size with h' | h'
                  · simp [h'] at this
                  · rw [Array.setIfInBounds_eq_of_size_le h'] at this; exact this
                · rwa [getD_set_ne true hkr] at this
          have := key rest _ hB2 hr1
          rwa [getD_set_ne true hne] at this
        exact keepB_of hcl hr2 hrun hi hne
      refine ⟨fun h0 => (by rw [hready] at h0; cases h0), fun j hj => ?_⟩
      rw [hready] at hj
      obtain rfl : j = i := by simpa using hj
      unfold wpOp
      simp only [ho]
      unfold wpList at h
      split
      · rename_i hw
        rw [if_pos hw] at h
        rcases h with h | ⟨h1, h2⟩
        · refine .inl (Oper.wp_mono hnext (Oper.wp_post (Q := mixPost Q (keepB md ops rd j) S (wpMix P md ops Q S rd rest)) (fun e a w he h => ?_) h))
          cases e <;> first | exact h | exact absurd rfl he
        · exact .inr ⟨h1, h2⟩
      · rename_i hw
        rw [if_neg hw] at h
        exact hnext _ _ h

theorem wp_region_mix {id : Nat} {a : Act} {w : World} {l : List Oper} (S : World → Prop) (rd ord : List Nat) (hm : P.follows .mixedOrders = true) (hB : mixB .any l.toArray rd ord = true)
    (hS : S w.drew) (h : wpMix P .any l.toArray (NoPanic Q) S rd ord a w.drew) : (Code.region id l.toArray true).wp P Q a w := by
  refine wp_region_noPanic ?_
  simp only [mixB, Bool.and_eq_true, beq_iff_eq] at hB
  obtain ⟨⟨⟨h1, h2⟩, h3⟩, h4⟩ := hB
  have hcl : ClosedL .any l.toArray (Array.replicate l.toArray.size false) := fun j o ho hj => by
    exfalso
    rw [Array.getD_eq_getD_getElem?, Array.getElem?_replicate] at hj
    split at hj <;> simp at hj
  refine wp_region_any hm (wpAny_of_D (S := S) (rd := rd) _ _ _ _ ?_)
  have hgo : wpAnyD P .any l.toArray (NoPanic Q) S rd ord.length (Array.replicate l.toArray.size false) a w.drew := by
   refine wpAnyD_of_mix h1 (fun i hi => ?_) (fun _ _ _ _ _ h => h) ord _ a w.drew hcl h4 (fun _ => hS) h
   have := (List.all_eq_true.1 h2) i hi
   cases ho : l.toArray[i]? with
   | none => rw [ho] at this; cases this
   | some o => rw [ho] at this; exact ⟨o, rfl, this⟩
  rw [h3] at hgo
  exact hgo

theorem wpMix_read {l : List Oper} {i : Nat} {rest : List Nat} {o : Oper} {a : Act} {w : World} (ho : l[i]? = some o) (hr : rd.contains i = true)
    (h : wpQuiet P l.toArray (fun w' => ∃ p : InC S, w' = p.w) (fun a' => wpMix P md l.toArray Q S rd rest a' w) [o] a) : wpMix P md l.toArray Q S rd (i :: rest) a w := by
  have ho' : l.toArray[i]? = some o := by simpa using ho
  unfold wpMix; simp only [ho', if_pos hr]; exact h
/-- one that makes or writes memory -/
theorem wpMix_eff {l : List Oper} {i : Nat} {rest : List Nat} {o : Oper} {a : Act} {w : World} {k : Bool} (ho : l[i]? = some o) (hr : rd.contains i = false) (hk : keepB md l.toArray rd i = k)
    (h : wpList P l.toArray (mixPost Q k S (wpMix P md l.toArray Q S rd rest)) [o] a w) : wpMix P md l.toArray Q S rd (i :: rest) a w := by
  have ho' : l.toArray[i]? = some o := by simpa using ho
  unfold wpMix; simp only [ho', hr, Bool.false_eq_true, if_false, hk]; exact h
/-- one that is passed over -/
theorem wpMix_skip {l : List Oper} {i : Nat} {rest : List Nat} {o : Oper} {a : Act} {w : World} {k : Bool} (ho : l[i]? = some o) (hr : rd.contains i = false) (hk : keepB md l.toArray rd i = k)
    (hw : Region.wanted o (yielded l.toArray a.tmps) = false) (h : mixPost Q k S (wpMix P md l.toArray Q S rd rest) .normal (a.put o.dst undef) w) : wpMix P md l.toArray Q S rd (i :: rest) a w := by
  refine wpMix_eff ho hr hk ?_
  unfold wpList
  rw [if_neg (by rw [hw]; decide)]
  exact h
theorem mixPost_keep {K : Act → World → Prop} {a : Act} {w : World} (hS : S w) (h : K a w) : mixPost Q true S K .normal a w := ⟨fun _ => hS, h⟩
theorem mixPost_last {K : Act → World → Prop} {a : Act} {w : World} (h : K a w) : mixPost Q false S K .normal a w := ⟨fun e => absurd e (by decide), h⟩
theorem wpMix_nil {a : Act} {w : World} (h : Q .normal a w) : wpMix P md ops (NoPanic Q) S rd [] a w := h
end
end Go.Proofs.YticpjjmacmmpjaaGreatDoor
