/-
  TextDeep, plain: as deep as may be, and deeper; as many as may be, and more.
-/
import Derived.Test.YtpajpjocakhcdaaGreatDoorTyF
import Derived.Test.YtpajpjocakhcdaaGreatDoorRtE
set_option linter.unusedSimpArgs false
set_option linter.unusedVariables false
set_option maxRecDepth 100000
set_option linter.unnecessarySimpa false
namespace Go.Proofs.YtpajpjocakhcdaaGreatDoor
/-- a letter within so many parentheses -/
def parsN : Nat → List UInt8
  | 0 => [97]
  | n + 1 => [40] ++ parsN n ++ [41]
def lettN : Nat → List UInt8
  | 0 => []
  | n + 1 => lettN n ++ [97]
theorem parsN_len (n : Nat) : (parsN n).length = 2 * n + 1 := by
  induction n with
  | zero => rfl
  | succ n ih => simp [parsN, ih]; omega
theorem lettN_len (n : Nat) : (lettN n).length = n := by
  induction n with
  | zero => rfl
  | succ n ih => simp [lettN, ih]
theorem deep_0 : readW (parsN 55) = (some (RE.wordL [97]), 0, 0) := by kernel_rfl
theorem deep_1 : readW (parsN 56) = (some (RE.wordL [97]), 0, 0) := by kernel_rfl
theorem deep_2 : readW (parsN 57) = (some (RE.wordL [97]), 0, 0) := by kernel_rfl
theorem deep_3 : readW (parsN 58) = (some (RE.wordL [97]), 0, 0) := by kernel_rfl
theorem deep_4 : readW (parsN 59) = (some (RE.wordL [97]), 0, 0) := by kernel_rfl
theorem deep_5 : readW (parsN 60) = (some (RE.wordL [97]), 0, 0) := by kernel_rfl
theorem deep_ok (i : Nat) (h : i ≤ 5) : readW (parsN (55 + i)) = (some (RE.wordL [97]), 0, 0) := by
  have hc : i = 0 ∨ i = 1 ∨ i = 2 ∨ i = 3 ∨ i = 4 ∨ i = 5 := by omega
  rcases hc with rfl | rfl | rfl | rfl | rfl | rfl
  · exact deep_0
  · exact deep_1
  · exact deep_2
  · exact deep_3
  · exact deep_4
  · exact deep_5
theorem deep_no : ∀ i, i < 16 → i ≤ 5 ∨ ((readW (parsN (55 + i))).1.isNone = true ∧ (readW (parsN (55 + i))).2.1 = 4 ∧ (readW (parsN (55 + i))).2.2 = 60) := by decide +kernel
def leA : RE := RE.one (BS.none.add 97)
def leP : List UInt8 × Nat × RE := ([97], 1, leA)
theorem leA_op : leA.op = 2 := by decide +kernel
theorem leA_nf : RE.nf leA := RE.nf_one _
theorem leA_size : leA.size = 1 := RE.one_size _
namespace PS
theorem le_rd : Start leP.1 ∧ Rd post nosg leP.1 leP.2.1 0 leP.2.2 := by
  have h := rd_class (BS.none.add 97) (by decide +kernel)
  have hc : classW (BS.none.add 97) = [97] := by
    unfold classW
    rw [if_pos (by decide +kernel)]
    decide +kernel
  rw [hc] at h
  exact ⟨⟨97, [], rfl, by decide⟩, h.post⟩
theorem le_all (m : Nat) : ∀ a ∈ List.replicate m leP, Start a.1 ∧ Rd post nosg a.1 a.2.1 0 a.2.2 := fun a ha => by
  rw [(List.mem_replicate.1 ha).2]; exact le_rd
theorem le_txts (m : Nat) : txts (List.replicate m leP) = List.replicate m 97 := by
  unfold txts
  induction m with
  | zero => rfl
  | succ m ih => rw [List.replicate_succ, List.flatMap_cons, ih]; rfl
theorem le_cnts (m : Nat) : cnts (List.replicate m leP) = m := by
  unfold cnts
  induction m with
  | zero => rfl
  | succ m ih => rw [List.replicate_succ, List.map_cons, List.sum_cons, ih]; show 1 + m = m + 1; omega
theorem le_vals (m : Nat) : vals (List.replicate m leP) = (List.replicate m leA).map some := by
  unfold vals
  rw [List.map_replicate, List.map_replicate]; rfl
theorem le_then (m : Nat) (h : 2 ≤ m) : RE.thenL ((List.replicate m leA).map some) = RE.node 3 BS.none (List.replicate m leA) := by
  have ho : ∀ k ∈ List.replicate m leA, k.op = 2 := fun k hk => by rw [(List.mem_replicate.1 hk).2]; exact leA_op
  rw [RE.thenL_of (l := List.replicate m leA) (fun k hk => by rw [ho k hk]; decide) _ (RE.flat_self fun k hk => by rw [ho k hk]; decide), RE.seqL_two (by simpa using h)]
theorem le_size (m : Nat) : (RE.node 3 BS.none (List.replicate m leA)).size = 1 + m := by
  rw [RE.size]
  congr 1
  induction m with
  | zero => rfl
  | succ m ih => rw [List.replicate_succ, RE.sizes, ih, leA_size]; omega
theorem catGo_steps (pd d : Nat) (hd : pd ≤ d) : ∀ (l : List (List UInt8 × Nat × RE)), (∀ a ∈ l, Start a.1 ∧ Rd post nosg a.1 a.2.1 pd a.2.2) → ∀ (st : PS) (z : List UInt8) (k : Nat) (acc : List (Option RE)), st.rest = txts l ++ z → Start z → st.e = 0 → st.nodes + cnts l ≤ 1000 → st.deep + d = 60 →
    catGo (orN d) (l.length + k) st acc = catGo (orN d) k (st.past (txts l).length (cnts l)) (acc ++ vals l) := by
  intro l
  induction l with
  | nil =>
    intro _ st z k acc hr hz he hn hp
    show catGo _ (0 + k) st acc = catGo _ k (st.past 0 0) (acc ++ [])
    rw [past_zero, List.append_nil, Nat.zero_add]
  | cons a l ih =>
    intro hl st z k acc hr hz he hn hp
    obtain ⟨hs, hrd⟩ := hl a (by simp)
    have ht : txts (a :: l) = a.1 ++ txts l := by simp [txts]
    have hc : cnts (a :: l) = a.2.1 + cnts l := by simp [cnts]
    rw [ht, List.append_assoc] at hr
    rw [hc] at hn
    have hst : Start st.rest := hr ▸ hs.app _
    have hsk : st.skip = st := skip_none (by rw [hr]; exact hs.nol _ _ (by decide))
    have hnx : nosg (txts l ++ z) := by
      cases l with
      | nil => rw [show txts ([] : List (List UInt8 × Nat × RE)) = [] from rfl, List.nil_append, ← List.append_nil z]; exact hz.nol _ _ (by decide)
      | cons b l =>
        have hb := (hl b (by simp)).1
        rw [show txts (b :: l) = b.1 ++ txts l by simp [txts], List.append_assoc]
        exact hb.nol _ _ (by decide)
    rw [List.length_cons, show l.length + 1 + k = (l.length + k) + 1 by omega, catGo, if_neg (by omega), hsk, stops_not hst]
    simp only [Bool.false_eq_true, if_false]
    rw [hrd d st _ hr hnx he (by omega) hp hd]
    simp only
    rw [ih (fun b hb => hl b (by simp [hb])) _ z k _ (past_rest hr _) hz he (by show st.nodes + a.2.1 + _ ≤ _; omega) hp]
    rw [past_past, ht, hc, List.length_append]
    simp [vals]
theorem atom_over (f : PS → PS × Option RE) (st : PS) (he : st.e = 0) (h : 1000 < st.nodes + 1) : (atom f st).1.e = 3 := by
  unfold atom
  simp only
  rw [if_pos h]
  simp [fail, he]
theorem postGo_e (f : Nat) (st : PS) (r : Option RE) (h : st.e ≠ 0) : (postGo f st r).1 = st := by rw [postGo_bad f st r h]
theorem le_over (m : Nat) (hm : 1000 < m) (hm2 : m ≤ 60000) (d : Nat) (hd : d = 60) : (cat (orN d) ⟨List.replicate m 97, 0, 0, 0, 0, 0⟩).1.e = 3 := by
  obtain ⟨hs, hrd⟩ := le_rd
  have e1 : List.replicate m (97 : UInt8) = [97] ++ List.replicate (m - 1) 97 := by
    rw [show m = (m - 1) + 1 by omega, List.replicate_succ]; simp
  have hst : ∀ k, 0 < k → Start (List.replicate k (97 : UInt8)) := fun k hk => ⟨97, List.replicate (k - 1) 97, by rw [← List.replicate_succ]; congr 1; omega, by decide⟩
  have h1 := hrd d ⟨List.replicate m 97, 0, 0, 0, 0, 0⟩ (List.replicate (m - 1) 97) e1 (by
    have := (hst (m - 1) (by omega)).nol [] [42, 43, 63, 32, 9, 10, 13] (by decide)
    rwa [List.append_nil] at this) rfl (by show 0 + 1 ≤ 1000; omega) (by show 0 + d = 60; omega) (by omega)
  unfold cat
  simp only
  rw [h1]
  simp only
  have hr2 : (past ⟨List.replicate m 97, 0, 0, 0, 0, 0⟩ leP.1.length leP.2.1).rest = txts (List.replicate 999 leP) ++ List.replicate (m - 1000) 97 := by
    rw [past_rest (t := leP.1) (z := List.replicate (m - 1) 97) e1, le_txts, List.replicate_append_replicate]; congr 1; omega
  have hlen : (past ⟨List.replicate m 97, 0, 0, 0, 0, 0⟩ leP.1.length leP.2.1).rest.length + 1 = (List.replicate 999 leP).length + ((m - 1000) + 1) := by
    rw [hr2, le_txts]; simp; omega
  rw [hlen, catGo_steps 0 d (by omega) _ (le_all 999) _ _ _ _ hr2 (hst _ (by omega)) rfl (by rw [le_cnts]; show 1 + 999 ≤ 1000; omega) (by show 0 + d = 60; omega)]
  have hr3 := past_rest hr2 (cnts (List.replicate 999 leP))
  generalize hS : (past (past ⟨List.replicate m 97, 0, 0, 0, 0, 0⟩ leP.1.length leP.2.1) (txts (List.replicate 999 leP)).length (cnts (List.replicate 999 leP))) = S at *
  have hSe : S.e = 0 := by rw [← hS]; rfl
  have hSn : S.nodes = 1000 := by rw [← hS, le_cnts]; rfl
  have hst3 : Start S.rest := hr3 ▸ hst _ (by omega)
  have hsk : S.skip = S := skip_none (by
    have := hst3.nol [] wsL (by decide)
    rwa [List.append_nil] at this)
  rw [catGo, if_neg (by omega), hsk, stops_not hst3]
  simp only [Bool.false_eq_true, if_false]
  have ha := atom_over (orN d) S hSe (by omega)
  have hp : (post (orN d) S).1.e = 3 := by
    unfold post
    simp only
    rw [postGo_e _ _ _ (by omega)]
    exact ha
  rw [catGo_bad _ _ _ _ (by omega)]
  exact hp
end PS
theorem readE_e {s : List UInt8} {e : Nat} (h : (readS s).1.e = e) (h0 : e ≠ 0) : (readE s).e = e := by
  unfold readE
  simp only
  rw [if_neg (show ¬ (readS s).1.e = 0 by omega), if_neg (fun hh => by have := hh.1; omega)]
  exact h
theorem readW_bad {s : List UInt8} {e : Nat} (hl : s.length ≤ 65536) (h : (readE s).e = e) (h0 : e ≠ 0) : (readW s).2.1 = e := by
  unfold readW
  rw [if_neg (by omega), if_neg (by omega)]
  simp only [h]
theorem readW_good {s : List UInt8} (hl : s.length ≤ 65536) (h : (readE s).e = 0) : (readW s).2.1 = 0 := by
  unfold readW
  rw [if_neg (by omega), if_pos h]
theorem many_over (m : Nat) (hm : 1000 < m) (hm2 : m ≤ 60000) : (readW (List.replicate m 97)).2.1 = 3 := by
  have hc := PS.le_over m hm hm2 60 rfl
  have hS : (readS (List.replicate m 97)).1.e = 3 := by
    show (PS.orS (PS.orN 60) ⟨List.replicate m 97, 0, 0, 0, 0, 0⟩).1.e = 3
    have h1 : (PS.and (PS.orN 60) ⟨List.replicate m 97, 0, 0, 0, 0, 0⟩).1.e = 3 := by
      unfold PS.and PS.list
      simp only
      rw [PS.listGo_bad _ _ _ _ _ _ (by omega)]; exact hc
    have h2 : (PS.minus (PS.orN 60) ⟨List.replicate m 97, 0, 0, 0, 0, 0⟩).1.e = 3 := by
      unfold PS.minus
      simp only
      rw [PS.minusGo_bad _ _ _ _ (by omega)]; exact h1
    unfold PS.orS PS.list
    simp only
    rw [PS.listGo_bad _ _ _ _ _ _ (by omega)]; exact h2
  exact readW_bad (by simp; omega) (readE_e hS (by decide)) (by decide)
theorem many_read0 (m : Nat) (h2 : 2 ≤ m) (hm : m ≤ 1000) : ∃ st, readS (List.replicate m 97) = (st, RE.node 3 BS.none (List.replicate m leA)) ∧ st.e = 0 ∧ st.rest = [] := by
  have hc := PS.cat_run 0 leP (List.replicate (m - 1) leP) (by
    rw [← List.replicate_succ]
    exact PS.le_all _)
  rw [← List.replicate_succ, show m - 1 + 1 = m by omega, PS.le_txts, PS.le_cnts, PS.le_vals, PS.le_then m h2] at hc
  have hnf : RE.nf (RE.node 3 BS.none (List.replicate m leA)) := by
    rw [← PS.le_then m h2]
    exact RE.nf_thenL fun r hr => by
      simp only [List.mem_map, Option.some.injEq] at hr
      obtain ⟨k, hk, rfl⟩ := hr
      rw [(List.mem_replicate.1 hk).2]; exact leA_nf
  have h0 := PS.RdE.or (PS.Mn.minus (PS.RdE.mn (PS.RdE.and hc hnf))) hnf
  have hrd := h0 60 ⟨List.replicate m 97, 0, 0, 0, 0, 0⟩ [] (by simp) (fun c hc => by cases hc) rfl (by show 0 + m ≤ 1000; omega) (by show 0 + 60 = 60; omega) (by omega)
  exact ⟨_, hrd, rfl, by simp [PS.past]⟩
theorem many_small (m : Nat) (h2 : 2 ≤ m) (hm : m ≤ 1000) : (readW (List.replicate m 97)).2.1 = if m ≤ 999 then 0 else 3 := by
  obtain ⟨st, hS, he, hr⟩ := many_read0 m h2 hm
  have hk : st.skip = st := PS.skip_none (by rw [hr]; intro c hc; cases hc)
  have hsz := PS.le_size m
  have hE : (readE (List.replicate m 97)).e = if m ≤ 999 then 0 else 3 := by
    unfold readE
    rw [hS]
    simp only
    rw [if_pos he, hk, if_pos hr]
    by_cases h9 : m ≤ 999
    · rw [if_neg (by omega), if_pos h9]; exact he
    · rw [if_pos ⟨he, by omega⟩, if_neg h9]
      simp [PS.fail, he]
  have hl : (List.replicate m (97 : UInt8)).length ≤ 65536 := by simp; omega
  by_cases h9 : m ≤ 999
  · rw [if_pos h9] at hE ⊢
    exact readW_good hl hE
  · rw [if_neg h9] at hE ⊢
    exact readW_bad hl hE (by decide)
theorem lettN_rep (n : Nat) : lettN n = List.replicate n 97 := by
  induction n with
  | zero => rfl
  | succ n ih => rw [lettN, ih]; exact List.replicate_succ'.symm
theorem many_ok (i : Nat) (h : i < 32) : (readW (lettN (985 + i))).2.1 = if 985 + i ≤ 999 then 0 else 3 := by
  rw [lettN_rep]
  by_cases h1 : 985 + i ≤ 1000
  · exact many_small _ (by omega) h1
  · rw [many_over _ (by omega) (by omega), if_neg (by omega)]
end Go.Proofs.YtpajpjocakhcdaaGreatDoor
