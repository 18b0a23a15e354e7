/-
  TextBytes, walked through the program.
-/
import Derived.Test.YticpjjmacmmpjaaGreatDoorRtE
import Derived.Test.YticpjjmacmmpjaaGreatDoorLxR
import Derived.Test.YticpjjmacmmpjaaGreatDoorSetX
set_option linter.unusedSimpArgs false
set_option linter.unusedVariables false
set_option maxRecDepth 100000
set_option linter.unnecessarySimpa false
namespace Go.Proofs.YticpjjmacmmpjaaGreatDoor
open RE (nf size)
theorem read_of {t : List UInt8} {n D : Nat} {x : RE} (h0 : PS.RdE PS.orS PS.stO t n D x) (hn : n ≤ 1000) (hD : D ≤ 60) (hl : t.length ≤ 65536) (hs : size x ≤ 1000) : readW t = (some x, 0, 0) := by
  have hrd := h0 60 ⟨t, 0, 0, 0, 0, 0⟩ [] (by simp) (fun c hc => by cases hc) rfl (by show 0 + n ≤ 1000; omega) (by show 0 + 60 = 60; omega) hD
  have hS : readS t = (PS.past ⟨t, 0, 0, 0, 0, 0⟩ t.length n, x) := hrd
  have hr0 : (PS.past ⟨t, 0, 0, 0, 0, 0⟩ t.length n).rest = [] := by simp [PS.past]
  have hE : (readE t).e = 0 := by
    unfold readE
    rw [hS]
    simp only
    rw [if_pos (show (PS.past ⟨t, 0, 0, 0, 0, 0⟩ t.length n).e = 0 from rfl)]
    have hk : (PS.past ⟨t, 0, 0, 0, 0, 0⟩ t.length n).skip = PS.past ⟨t, 0, 0, 0, 0, 0⟩ t.length n := PS.skip_none (by rw [hr0]; intro c hc; cases hc)
    rw [hk, if_pos hr0, if_neg (by omega)]
    rfl
  unfold readW
  rw [if_neg (by omega), if_pos hE, hS]
theorem read_atom {t : List UInt8} {n D : Nat} {x : RE} (h : PS.Rd PS.atom (fun _ => True) t n D x) (hs : PS.Start t) (hx : nf x) (hn : n ≤ 1000) (hD : D ≤ 60) (hl : t.length ≤ 65536) (hs2 : size x ≤ 1000) : readW t = (some x, 0, 0) :=
  read_of (PS.Lv.le (k := 5) (j := 0) h (by omega) (by omega) hs hx) hn hD hl hs2
theorem PS.err_all (f : PS → PS × Option RE) (st : PS) {p : PS × Option RE} (hp : PS.atom f st = p) (h : p.1.e ≠ 0) : (PS.orS f st).1 = p.1 := by
  have h1 : (PS.post f st).1 = p.1 := by
    unfold PS.post; simp only
    rw [hp, PS.postGo, if_pos h]
  have h2 : (PS.cat f st).1 = p.1 := by
    unfold PS.cat; simp only
    rw [PS.catGo, if_pos (by rw [h1]; exact h)]; exact h1
  have h3 : (PS.and f st).1 = p.1 := by
    unfold PS.and PS.list; simp only
    rw [PS.listGo, if_pos (by rw [h2]; exact h)]; exact h2
  have h4 : (PS.minus f st).1 = p.1 := by
    unfold PS.minus; simp only
    rw [PS.minusGo, if_pos (by rw [h3]; exact h)]; exact h3
  unfold PS.orS PS.list; simp only
  rw [PS.listGo, if_pos (by rw [h4]; exact h)]; exact h4
theorem readE_err {t : List UInt8} {q : PS} (h5 : (readS t).1 = q) (h : q.e ≠ 0) : (readE t).e ≠ 0 := by
  unfold readE
  simp only
  rw [h5, if_neg h, if_neg (fun hc => h hc.1)]
  exact h
theorem readS_def (t : List UInt8) : readS t = PS.orS (PS.orN 60) ⟨t, 0, 0, 0, 0, 0⟩ := by unfold readS; with_reducible rfl
theorem readW_err2 {t : List UInt8} (hl : ¬ 65536 < t.length) (hE : (readE t).e ≠ 0) : (readW t).2.1 ≠ 0 := by
  unfold readW
  rw [if_neg hl]
  generalize readE t = q at *
  rw [if_neg hE]
  exact hE
theorem read_err {t : List UInt8} (hl : ¬ 65536 < t.length) {p : PS × Option RE} (hp : PS.atom (PS.orN 60) ⟨t, 0, 0, 0, 0, 0⟩ = p) (h : p.1.e ≠ 0) : (readW t).2.1 ≠ 0 := by
  have h5 : (readS t).1 = p.1 := by
    rw [readS_def]
    generalize PS.orN 60 = f at *
    exact PS.err_all f _ hp h
  exact readW_err2 hl (readE_err h5 h)
namespace PS
theorem rd_byte (b : Nat) (hb : b < 256) : Rd atom (fun _ => True) (byteW b) 1 0 (RE.one (BS.none.add b)) := fun d st z hr hF he hn hp hd => by
  obtain ⟨c, t, hb1, hc⟩ := byteW_start b hb
  rw [atom_body _ _ (by
    rw [hr, hb1]; intro c' hc'; cases hc'
    cases hq : wsL.contains c with
    | false => rfl
    | true => simp [wsL] at hq; simp [signsL] at hc; rcases hq with rfl | rfl | rfl | rfl <;> simp at hc) (by omega)]
  have h2 : (st.past 0 1).rest = byteW b ++ z := by rw [past0_rest, hr]
  have hh : ∀ b : UInt8, signsL.contains b = true → ¬ (st.past 0 1).rest.head? = some b := fun b' hb' e => by
    rw [h2, hb1] at e
    cases e
    rw [hb'] at hc; cases hc
  unfold atomB
  rw [if_neg (hh 40 (by decide)), if_neg (hh 91 (by decide)), if_neg (hh 46 (by decide)), one_byteW b hb _ z h2]
  simp only [adv_past, past_past]
  simp
theorem start_byte (b : Nat) (hb : b < 256) : Start (byteW b) := by
  obtain ⟨c, t, h1, h2⟩ := byteW_start b hb
  rw [h1]
  refine ⟨c, t, rfl, ?_⟩
  simp [signsL] at h2 ⊢
  simp [h2]
theorem rd_set {y : List UInt8} {s : BS} (h : ∀ (st : PS) (z : List UInt8), st.rest = y ++ 93 :: z → st.e = 0 → st.set = (st.adv (y.length + 1), s)) : Rd atom (fun _ => True) ([91] ++ y ++ [93]) 1 0 (RE.one s) := fun d st z hr hF he hn hp hd => by
  rw [atom_body _ _ (by rw [hr]; intro c hc; cases hc; rfl) (by omega)]
  have h4 : (st.past 0 1).rest = 91 :: (y ++ 93 :: z) := by rw [past0_rest, hr]; simp
  unfold atomB
  rw [if_neg (by rw [h4]; simp), if_pos (by rw [h4]; rfl), h ((st.past 0 1).adv 1) z (by show (st.past 0 1).rest.drop 1 = _; rw [h4]; rfl) he]
  simp only [adv_past, past_past]
  simp [Nat.add_comm, Nat.add_assoc, Nat.add_left_comm]
theorem byte_not94 (b : Nat) (hb : b < 256) (z : List UInt8) : ¬ (byteW b ++ z).head? = some 94 := by
  obtain ⟨c, t, h1, h2⟩ := byteW_start b hb
  rw [h1]
  intro e
  cases e
  simp [signsL] at h2
theorem byte_not93 (b : Nat) (hb : b < 256) (z : List UInt8) : (byteW b ++ z).head? ≠ some 93 := by
  obtain ⟨c, t, h1, h2⟩ := byteW_start b hb
  rw [h1]
  intro e
  cases e
  simp [signsL] at h2
theorem setGo_one (b : Nat) (hb : b < 256) (st : PS) (z : List UInt8) (h : st.rest = byteW b ++ 93 :: z) (he : st.e = 0) (k : Nat) : setGo (k + 2) st BS.none = (st.adv (byteW b).length, RE.orS BS.none (BS.run b 1)) := by
  have hs := setStep_run' ⟨b, b, hb, hb⟩ (Nat.le_refl _) st BS.none (93 :: z) (by rw [h]; unfold runW; simp) (by simp)
  have hrw : runW ⟨b, b, hb, hb⟩ = byteW b := by unfold runW; simp
  rw [hrw] at hs
  rw [setGo, if_pos ⟨he, by rw [h]; exact byte_not93 b hb _⟩, hs]
  simp only
  rw [setGo, if_neg (by rw [adv_rest h]; simp)]
  simp
theorem set_one (b : Nat) (hb : b < 256) (st : PS) (z : List UInt8) (h : st.rest = byteW b ++ 93 :: z) (he : st.e = 0) : st.set = (st.adv ((byteW b).length + 1), RE.orS BS.none (BS.run b 1)) := by
  have hn : ¬ st.rest.head? = some 94 := by rw [h]; exact byte_not94 b hb _
  obtain ⟨k, hk⟩ : ∃ k, st.rest.length + 1 = k + 2 := ⟨st.rest.length - 1, by rw [h]; simp; omega⟩
  have hg := setGo_one b hb st z h he k
  unfold set
  simp only [hn, decide_false, Bool.false_eq_true, if_false]
  rw [hk, hg, clip_adv st _ 93 z (adv_rest h)]
theorem set_oneNot (b : Nat) (hb : b < 256) (st : PS) (z : List UInt8) (h : st.rest = [94] ++ byteW b ++ 93 :: z) (he : st.e = 0) : st.set = (st.adv (([94] ++ byteW b).length + 1), set.notS' (RE.orS BS.none (BS.run b 1))) := by
  have hn : st.rest.head? = some 94 := by rw [h]; rfl
  have h1 : (st.adv 1).rest = byteW b ++ 93 :: z := by show st.rest.drop 1 = _; rw [h]; rfl
  obtain ⟨k, hk⟩ : ∃ k, (st.adv 1).rest.length + 1 = k + 2 := ⟨(st.adv 1).rest.length - 1, by rw [h1]; simp; omega⟩
  have hg := setGo_one b hb (st.adv 1) z h1 he k
  unfold set
  simp only [hn, decide_true, if_true]
  rw [hk, hg, clip_adv (st.adv 1) _ 93 z (adv_rest h1), adv_plus]
  simp [Nat.add_comm, Nat.add_left_comm]
theorem setStep_rng (a b : Nat) (ha : a < 256) (hb : b < 256) (st : PS) (s : BS) (z : List UInt8) (h : st.rest = byteW a ++ [45] ++ byteW b ++ 93 :: z) :
    setStep st s = (if b < a then (st.adv (byteW a ++ [45] ++ byteW b).length).fail 2 else st.adv (byteW a ++ [45] ++ byteW b).length, RE.orS s (fromS a b)) := by
  have h0 : st.rest = byteW a ++ (45 :: (byteW b ++ 93 :: z)) := by rw [h]; simp
  have h1 := one_byteW a ha st _ h0
  have h2 := adv_rest h0
  have h3 : ((st.adv (byteW a).length).adv 1).rest = byteW b ++ 93 :: z := by
    show (st.adv (byteW a).length).rest.drop 1 = _
    rw [h2]; rfl
  unfold setStep
  simp only [h1]
  have e : (if (st.adv (byteW a).length).rest.head? = some 45 then ((st.adv (byteW a).length).adv 1).one else (st.adv (byteW a).length, a)) = (((st.adv (byteW a).length).adv 1).adv (byteW b).length, b) := by
    rw [if_pos (by rw [h2]; rfl), one_byteW b hb _ _ h3]
  rw [e]
  simp only
  rw [adv_plus, adv_plus, show (byteW a).length + (1 + (byteW b).length) = (byteW a ++ [45] ++ byteW b).length by simp [Nat.add_assoc, Nat.add_comm 1]]
theorem set_rng (a b : Nat) (ha : a < 256) (hb : b < 256) (hab : a ≤ b) (st : PS) (z : List UInt8) (h : st.rest = byteW a ++ [45] ++ byteW b ++ 93 :: z) (he : st.e = 0) : st.set = (st.adv ((byteW a ++ [45] ++ byteW b).length + 1), RE.orS BS.none (fromS a b)) := by
  have h0 : st.rest = byteW a ++ (45 :: (byteW b ++ 93 :: z)) := by rw [h]; simp
  have hn : ¬ st.rest.head? = some 94 := by rw [h0]; exact byte_not94 a ha _
  have hs := setStep_rng a b ha hb st BS.none z h
  rw [if_neg (by omega)] at hs
  obtain ⟨k, hk⟩ : ∃ k, st.rest.length + 1 = k + 2 := ⟨st.rest.length - 1, by rw [h]; simp; omega⟩
  have hg : setGo (k + 2) st BS.none = (st.adv (byteW a ++ [45] ++ byteW b).length, RE.orS BS.none (fromS a b)) := by
    rw [setGo, if_pos ⟨he, by rw [h0]; exact byte_not93 a ha _⟩, hs]
    simp only
    rw [setGo, if_neg (by rw [adv_rest h]; simp)]
  unfold set
  simp only [hn, decide_false, Bool.false_eq_true, if_false]
  rw [hk, hg, clip_adv st _ 93 z (adv_rest h)]
theorem set_bad (a b : Nat) (ha : a < 256) (hb : b < 256) (hab : b < a) (st : PS) (z : List UInt8) (h : st.rest = byteW a ++ [45] ++ byteW b ++ 93 :: z) (he : st.e = 0) : st.set.1.e ≠ 0 := by
  have h0 : st.rest = byteW a ++ (45 :: (byteW b ++ 93 :: z)) := by rw [h]; simp
  have hn : ¬ st.rest.head? = some 94 := by rw [h0]; exact byte_not94 a ha _
  have hs := setStep_rng a b ha hb st BS.none z h
  rw [if_pos hab] at hs
  obtain ⟨k, hk⟩ : ∃ k, st.rest.length + 1 = k + 2 := ⟨st.rest.length - 1, by rw [h]; simp; omega⟩
  have hf : ((st.adv (byteW a ++ [45] ++ byteW b).length).fail 2).e ≠ 0 := by
    unfold fail
    show (if st.e = 0 then 2 else st.e) ≠ 0
    rw [if_pos he]; omega
  have hg : setGo (k + 2) st BS.none = ((st.adv (byteW a ++ [45] ++ byteW b).length).fail 2, RE.orS BS.none (fromS a b)) := by
    rw [setGo, if_pos ⟨he, by rw [h0]; exact byte_not93 a ha _⟩, hs]
    simp only
    rw [setGo, if_neg (fun hc => hf hc.1)]
  unfold set
  simp only [hn, decide_false, Bool.false_eq_true, if_false]
  rw [hk, hg]
  exact hf
theorem atom_bad (f : PS → PS × Option RE) (a b : Nat) (ha : a < 256) (hb : b < 256) (hab : b < a) : (atom f ⟨[91] ++ (byteW a ++ [45] ++ byteW b) ++ [93], 0, 0, 0, 0, 0⟩).1.e ≠ 0 := by
  rw [atom_body _ _ (by show Nol wsL (91 :: _); intro c hc; cases hc; rfl) (by show 0 + 1 ≤ 1000; omega)]
  have h4 : (past ⟨[91] ++ (byteW a ++ [45] ++ byteW b) ++ [93], 0, 0, 0, 0, 0⟩ 0 1).rest = 91 :: (byteW a ++ [45] ++ byteW b ++ 93 :: []) := by rw [past0_rest]; simp
  have he : (past ⟨[91] ++ (byteW a ++ [45] ++ byteW b) ++ [93], 0, 0, 0, 0, 0⟩ 0 1).e = 0 := rfl
  generalize past ⟨[91] ++ (byteW a ++ [45] ++ byteW b) ++ [93], 0, 0, 0, 0, 0⟩ 0 1 = st at *
  unfold atomB
  rw [if_neg (by rw [h4]; simp), if_pos (by rw [h4]; rfl)]
  exact set_bad a b ha hb hab (st.adv 1) [] (by show st.rest.drop 1 = _; rw [h4]; rfl) he
end PS
theorem byte_len (b : Nat) : (byteW b).length ≤ 4 := byteW_len b
theorem single_run (b : Nat) (hb : b < 256) : RE.orS BS.none (BS.run b 1) = BS.none.add b := BS.ext_has fun j hj => by
  rw [PS.has_orS _ _ _ hj, BS.has_none, BS.has_run _ _ hj _ (by omega), BS.has_add _ _ _ hb hj, BS.has_none]
  congr 1
  exact decide_eq_decide.2 (by omega)
theorem one_ofL (b : Nat) : BS.ofL [(b : Int)] = BS.none.add b := by
  simp [BS.ofL]
theorem or_none (s : BS) : RE.orS BS.none s = s := BS.ext_has fun j hj => by
  rw [PS.has_orS _ _ _ hj, BS.has_none]; simp
theorem one_size' (s : BS) : (RE.one s).size = 1 := by unfold RE.one; split <;> simp [RE.nothing, RE.size, RE.sizes]
/-- the five texts -/
theorem byte_read (b : Nat) (hb : b < 256) : readW (byteW b) = (some (RE.one (BS.ofL [(b : Int)])), 0, 0) := by
  rw [one_ofL]
  exact read_atom (PS.rd_byte b hb) (PS.start_byte b hb) (RE.nf_one _) (by omega) (by omega) (by have := byte_len b; omega) (by rw [one_size']; omega)
theorem set_read (b : Nat) (hb : b < 256) : readW ([91] ++ byteW b ++ [93]) = (some (RE.one (BS.ofL [(b : Int)])), 0, 0) := by
  rw [one_ofL, ← single_run b hb]
  exact read_atom (PS.rd_set (PS.set_one b hb)) ⟨91, byteW b ++ [93], by simp, by decide⟩ (RE.nf_one _) (by omega) (by omega) (by have := byte_len b; simp; omega) (by rw [one_size']; omega)
theorem not_read (b : Nat) (hb : b < 256) : readW ([91] ++ ([94] ++ byteW b) ++ [93]) = (some (RE.one (PS.set.notS' (BS.ofL [(b : Int)]))), 0, 0) := by
  rw [one_ofL, ← single_run b hb]
  exact read_atom (PS.rd_set (PS.set_oneNot b hb)) ⟨91, [94] ++ byteW b ++ [93], by simp, by decide⟩ (RE.nf_one _) (by omega) (by omega) (by have := byte_len b; simp; omega) (by rw [one_size']; omega)
theorem rng_read (a b : Nat) (ha : a < 256) (hb : b < 256) (hab : a ≤ b) : readW ([91] ++ (byteW a ++ [45] ++ byteW b) ++ [93]) = (some (RE.one (BS.run a (b + 1 - a))), 0, 0) := by
  have e : BS.run a (b + 1 - a) = RE.orS BS.none (PS.fromS a b) := by rw [or_none]; rfl
  rw [e]
  exact read_atom (PS.rd_set (PS.set_rng a b ha hb hab)) ⟨91, (byteW a ++ [45] ++ byteW b) ++ [93], by simp, by decide⟩ (RE.nf_one _) (by omega) (by omega) (by have := byte_len a; have := byte_len b; simp; omega) (by rw [one_size']; omega)
theorem bad_read (a b : Nat) (ha : a < 256) (hb : b < 256) (hab : b < a) : (readW ([91] ++ (byteW a ++ [45] ++ byteW b) ++ [93])).2.1 ≠ 0 :=
  read_err (by have := byte_len a; have := byte_len b; simp; omega) rfl (PS.atom_bad _ a b ha hb hab)
end Go.Proofs.YticpjjmacmmpjaaGreatDoor
namespace Go.Proofs.YticpjjmacmmpjaaGreatDoor
open Go.RowKit
theorem read_by {s : List UInt8} {z : ByteArray} {r : Option RE × Nat × Nat} (W : World) (hz : z = ⟨s.toArray⟩) (hl : s.length ≤ 1099511627776) (h : readW s = r) : Calls Tryz.prog 23 #[.string z] W (ReadPost W r) := by
  subst hz; exact h ▸ Read_any s hl W
theorem Of1_any (x : Nat) (hx : x ≤ 255) (t : TypeId) (W : World) : Calls Tryz.prog 84 #[.slice (some ⟨W.heap.size, 0, none⟩) 1 1] (W.alloc (.cells #[.int .u8 (x : Int)] t)) fun e w' => e = .returned (aggS (BS.ofL [(x : Int)])) ∧ Below W.heap.size W w' :=
  (Of_any W.heap.size 0 1 [(x : Int)] (fun i hi => by
    obtain rfl : i = 0 := by simpa using hi
    exact ⟨by simp, by simpa using (show (x : Int) ≤ 255 by omega)⟩) (by simp) (W.alloc (.cells #[.int .u8 (x : Int)] t)) (fun i hi => by
    obtain rfl : i = 0 := by simpa using hi
    rw [World.cell?_alloc_new]; rfl)).mono fun e w' ⟨he, hb⟩ => ⟨he, (re_alloc W _).trans (hb.mono (by simp))⟩
theorem OneS_any (s : BS) (w : World) : Calls Tryz.prog 39 #[aggS s] w fun e w' => ∃ b, e = .returned (ptr b) ∧ IsReO w' (ptr b) (some (RE.one s)) ∧ Below w.heap.size w w' :=
  (One_any s.a s.b s.c s.d w).mono fun e w' ⟨b, he, h1, h2⟩ => ⟨b, he, ⟨b, rfl, h1.is⟩, h2⟩
theorem NotS_any (s : BS) (w : World) : Calls Tryz.prog 101 #[aggS s] w fun e w' => e = .returned (aggS (PS.set.notS' s)) ∧ Below w.heap.size w w' := Not_any s.a s.b s.c s.d w
theorem FromS_any (low high : Nat) (hlo : low < 256) (hhi : high < 256) (w : World) : Calls Tryz.prog 89 #[.int .u8 (low : Int), .int .u8 (high : Int)] w fun e w' => e = .returned (aggS (BS.run low (high + 1 - low))) ∧ Below w.heap.size w w' := From_any low high hlo hhi w
theorem same_same (o : Option RE) : sameB o o = true := decide_eq_true rfl
end Go.Proofs.YticpjjmacmmpjaaGreatDoor
