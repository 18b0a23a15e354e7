/-
  TextBytes, walked through the program.
-/
import Derived.Test.YtpajpjocakhcdaaGreatDoorRtE
import Derived.Test.YtpajpjocakhcdaaGreatDoorTyF
import Derived.Test.YtpajpjocakhcdaaGreatDoorSetX
set_option linter.unusedSimpArgs false
set_option linter.unusedVariables false
set_option maxRecDepth 100000
set_option linter.unnecessarySimpa false
namespace Go.Proofs.YtpajpjocakhcdaaGreatDoor
open RE (nf size)
theorem read_of {t : List UInt8} {n D : Nat} {x : RE} (h0 : PS.RdE PS.orS PS.stO t n D x) (hn : n ≤ 1000) (hD : D ≤ 60) (hl : t.length ≤ 65536) (hs : size x ≤ 1000) : readW t = (some x, 0, 0) := by
  have hrd := h0 60 ⟨t, 0, 0, 0, 0, 0⟩ [] (by simp) (fun c hc => by cases hc) rfl (by show 0 + n ≤ 1000; omega) (by show 0 + 60 = 60; omega) hD
  have hS : readS t = (PS.past ⟨t, 0, 0, 0, 0, 0⟩ t.length n, x) := hrd
  have hr0 : (PS.past ⟨t, 0, 0, 0, 0, 0⟩ t.length n).rest = [] := by simp [PS.past]
  have hE : (readE t).e = 0 := by
    unfold readE
    rw [hS]
    simp only
    rw [if_pos (show (PS.past ⟨t, 0, 0, 0, 0, 0⟩ t.length n).e = 0 from rfl)]
    have hk : (PS.past ⟨t, 0, 0, 0, 0, 0⟩ t.length n).skip = PS.past ⟨t, 0, 0, 0, 0, 0⟩ t.length n := PS.skip_none (by rw [hr0]; intro c hc; cases hc)
    rw [hk, if_pos hr0, if_neg (by omega)]
    rfl
  unfold readW
  rw [if_neg (by omega), if_pos hE, hS]
theorem read_atom {t : List UInt8} {n D : Nat} {x : RE} (h : PS.Rd PS.atom (fun _ => True) t n D x) (hs : PS.Start t) (hx : nf x) (hn : n ≤ 1000) (hD : D ≤ 60) (hl : t.length ≤ 65536) (hs2 : size x ≤ 1000) : readW t = (some x, 0, 0) :=
  read_of (PS.Lv.le (k := 5) (j := 0) h (by omega) (by omega) hs hx) hn hD hl hs2
theorem PS.err_all (f : PS → PS × Option RE) (st : PS) {p : PS × Option RE} (hp : PS.atom f st = p) (h : p.1.e ≠ 0) : (PS.orS f st).1 = p.1 := by
  have h1 : (PS.post f st).1 = p.1 := by
    unfold PS.post; simp only
    rw [hp, PS.postGo, if_pos h]
  have h2 : (PS.cat f st).1 = p.1 := by
    unfold PS.cat; simp only
    rw [PS.catGo, if_pos (by rw [h1]; exact h)]; exact h1
  have h3 : (PS.and f st).1 = p.1 := by
    unfold PS.and PS.list; simp only
    rw [PS.listGo, if_pos (by rw [h2]; exact h)]; exact h2
  have h4 : (PS.minus f st).1 = p.1 := by
    unfold PS.minus; simp only
    rw [PS.minusGo, if_pos (by rw [h3]; exact h)]; exact h3
  unfold PS.orS PS.list; simp only
  rw [PS.listGo, if_pos (by rw [h4]; exact h)]; exact h4
theorem readE_err {t : List UInt8} {q : PS} (h5 : (readS t).1 = q) (h : q.e ≠ 0) : (readE t).e ≠ 0 := by
  unfold readE
  simp only
  rw [h5, if_neg h, if_neg (fun hc => h hc.1)]
  exact h
theorem readS_def (t : List UInt8) : readS t = PS.orS (PS.orN 60) ⟨t, 0, 0, 0, 0, 0⟩ := by unfold readS; with_reducible rfl
theorem readW_err2 {t : List UInt8} (hl : ¬ 65536 < t.length) (hE : (readE t).e ≠ 0) : (readW t).2.1 ≠ 0 := by
  unfold readW
  rw [if_neg hl]
  generalize readE t = q at *
  rw [if_neg hE]
  exact hE
theorem read_err {t : List UInt8} (hl : ¬ 65536 < t.length) {p : PS × Option RE} (hp : PS.atom (PS.orN 60) ⟨t, 0, 0, 0, 0, 0⟩ = p) (h : p.1.e ≠ 0) : (readW t).2.1 ≠ 0 := by
  have h5 : (readS t).1 = p.1 := by
    rw [readS_def]
    generalize PS.orN 60 = f at *
    exact PS.err_all f _ hp h
  exact readW_err2 hl (readE_err h5 h)
namespace PS
theorem rd_byte (b : Nat) (hb : b < 256) : Rd atom (fun _ => True) (byteW b) 1 0 (RE.one (BS.none.add b)) := fun d st z hr hF he hn hp hd => by
  obtain ⟨c, t, hb1, hc⟩ := byteW_start b hb
  rw [atom_body _ _ (by
    rw [hr, hb1]; intro c' hc'; cases hc'
    cases hq : wsL.contains c with
    | false => rfl
    | true => simp [wsL] at hq; simp [signsL] at hc; rcases hq with rfl | rfl | rfl | rfl <;> simp at hc) (by omega)]
  have h2 : (st.past 0 1).rest = byteW b ++ z := by rw [past0_rest, hr]
  have hh : ∀ b : UInt8, signsL.contains b = true → ¬ (st.past 0 1).rest.head? = some b := fun b' hb' e => by
    rw [h2, hb1] at e
    cases e
    rw [hb'] at hc; cases hc
  unfold atomB
  rw [if_neg (hh 40 (by decide)), if_neg (hh 91 (by decide)), if_neg (hh 46 (by decide)), one_byteW b hb _ z h2]
  simp only [adv_past, past_past]
  simp
theorem start_byte (b : Nat) (hb : b < 256) : Start (byteW b) := by
  obtain ⟨c, t, h1, h2⟩ := byteW_start b hb
  rw [h1]
  refine ⟨c, t, rfl, ?_⟩
  simp [signsL] at h2 ⊢
  simp [h2]
theorem rd_set {y : List UInt8} {s : BS} (h : ∀ (st : PS) (z : List UInt8), st.rest = y ++ 93 :: z → st.e = 0 → st.set = (st.adv (y.length + 1), s)) : Rd atom (fun _ => True) ([91] ++ y ++ [93]) 1 0 (RE.one s) := fun d st z hr hF he hn hp hd => by
  rw [atom_body _ _ (by rw [hr]; intro c hc; cases hc; rfl) (by omega)]
  have h4 : (st.past 0 1).rest = 91 :: (y ++ 93 :: z) := by rw [past0_rest, hr]; simp
  unfold atomB
  rw [if_neg (by rw [h4]; simp), if_pos (by rw [h4]; rfl), h ((st.past 0 1).adv 1) z (by show (st.past 0 1).rest.drop 1 = _; rw [h4]; rfl) he]
  simp only [adv_past, past_past]
  simp [Nat.add_comm, Nat.add_assoc, Nat.add_left_comm]
theorem byte_not94 (b : Nat) (hb : b < 256) (z : List UInt8) : ¬ (byteW b ++ z).head? = some 94 := by
  obtain ⟨c, t, h1, h2⟩ := byteW_start b hb
  rw [h1]
  intro e
  cases e
  simp [signsL] at h2
theorem byte_not93 (b : Nat) (hb : b < 256) (z : List UInt8) : (byteW b ++ z).head? ≠ some 93 := by
  obtain ⟨c, t, h1, h2⟩ := byteW_start b hb
  rw [h1]
  intro e
  cases e
  simp [signsL] at h2
theorem setGo_one (b : Nat) (hb : b < 256) (st : PS) (z : List UInt8) (h : st.rest = byteW b ++ 93 :: z) (he : st.e = 0) (k : Nat) : setGo (k + 2) st BS.none = (st.adv (byteW b).length, RE.orS BS.none (BS.run b 1)) := by
  have hs := setStep_run' ⟨b, b, hb, hb⟩ (Nat.le_refl _) st BS.none (93 :: z) (by rw [h]; unfold runW; simp) (by simp)
  have hrw : runW ⟨b, b, hb, hb⟩ = byteW b := by unfold runW; simp
  rw [hrw] at hs
  rw [setGo, if_pos ⟨he, by rw [h]; exact byte_not93 b hb _⟩, hs]
  simp only
  rw [setGo, if_neg (by rw [adv_rest h]; simp)]
  simp
theorem set_one (b : Nat) (hb : b < 256) (st : PS) (z : List UInt8) (h : st.rest = byteW b ++ 93 :: z) (he : st.e = 0) : st.set = (st.adv ((byteW b).length + 1), RE.orS BS.none (BS.run b 1)) := by
  have hn : ¬ st.rest.head? = some 94 := by rw [h]; exact byte_not94 b hb _
  obtain ⟨k, hk⟩ : ∃ k, st.rest.length + 1 = k + 2 := ⟨st.rest.length - 1, by rw [h]; simp; omega⟩
  have hg := setGo_one b hb st z h he k
  unfold set
  simp only [hn, decide_false, Bool.false_eq_true, if_false]
  rw [hk, hg, clip_adv st _ 93 z (adv_rest h)]
theorem set_oneNot (b : Nat) (hb : b < 256) (st : PS) (z : List UInt8) (h : st.rest = [94] ++ byteW b ++ 93 :: z) (he : st.e = 0) : st.set = (st.adv (([94] ++ byteW b).length + 1), set.notS' (RE.orS BS.none (BS.run b 1))) := by
  have hn : st.rest.head? = some 94 := by rw [h]; rfl
  have h1 : (st.adv 1).rest = byteW b ++ 93 :: z := by show st.rest.drop 1 = _; rw [h]; rfl
  obtain ⟨k, hk⟩ : ∃ k, (st.adv 1).rest.length + 1 = k + 2 := ⟨(st.adv 1).rest.length - 1, by rw [h1]; simp; omega⟩
  have hg := setGo_one b hb (st.adv 1) z h1 he k
  unfold set
  simp only [hn, decide_true, if_true]
  rw [hk, hg, clip_adv (st.adv 1) _ 93 z (adv_rest h1), adv_plus]
  simp [Nat.add_comm, Nat.add_left_comm]
theorem setStep_rng (a b : Nat) (ha : a < 256) (hb : b < 256) (st : PS) (s : BS) (z : List UInt8) (h : st.rest = byteW a ++ [45] ++ byteW b ++ 93 :: z) :
    setStep st s = (if b < a then (st.adv (byteW a ++ [45] ++ byteW b).length).fail 2 else st.adv (byteW a ++ [45] ++ byteW b).length, RE.orS s (fromS a b)) := by
  have h0 : st.rest = byteW a ++ (45 :: (byteW b ++ 93 :: z)) := by rw [h]; simp
  have h1 := one_byteW a ha st _ h0
  have h2 := adv_rest h0
  have h3 : ((st.adv (byteW a).length).adv 1).rest = byteW b ++ 93 :: z := by
    show (st.adv (byteW a).length).rest.drop 1 = _
    rw [h2]; rfl
  unfold setStep
  simp only [h1]
  have e : (if (st.adv (byteW a).length).rest.head? = some 45 then ((st.adv (byteW a).length).adv 1).one else (st.adv (byteW a).length, a)) = (((st.adv (byteW a).length).adv 1).adv (byteW b).length, b) := by
    rw [if_pos (by rw [h2]; rfl), one_byteW b hb _ _ h3]
  rw [e]
  simp only
  rw [adv_plus, adv_plus, show (byteW a).length + (1 + (byteW b).length) = (byteW a ++ [45] ++ byteW b).length by simp [Nat.add_assoc, Nat.add_comm 1]]
theorem set_rng (a b : Nat) (ha : a < 256) (hb : b < 256) (hab : a ≤ b) (st : PS) (z : List UInt8) (h : st.rest = byteW a ++ [45] ++ byteW b ++ 93 :: z) (he : st.e = 0) : st.set = (st.adv ((byteW a ++ [45] ++ byteW b).length + 1), RE.orS BS.none (fromS a b)) := by
  have h0 : st.rest = byteW a ++ (45 :: (byteW b ++ 93 :: z)) := by rw [h]; simp
  have hn : ¬ st.rest.head? = some 94 := by rw [h0]; exact byte_not94 a ha _
  have hs := setStep_rng a b ha hb st BS.none z h
  rw [if_neg (by omega)] at hs
  obtain ⟨k, hk⟩ : ∃ k, st.rest.length + 1 = k + 2 := ⟨st.rest.length - 1, by rw [h]; simp; omega⟩
  have hg : setGo (k + 2) st BS.none = (st.adv (byteW a ++ [45] ++ byteW b).length, RE.orS BS.none (fromS a b)) := by
    rw [setGo, if_pos ⟨he, by rw [h0]; exact byte_not93 a ha _⟩, hs]
    simp only
    rw [setGo, if_neg (by rw [adv_rest h]; simp)]
  unfold set
  simp only [hn, decide_false, Bool.false_eq_true, if_false]
  rw [hk, hg, clip_adv st _ 93 z (adv_rest h)]
theorem set_bad (a b : Nat) (ha : a < 256) (hb : b < 256) (hab : b < a) (st : PS) (z : List UInt8) (h : st.rest = byteW a ++ [45] ++ byteW b ++ 93 :: z) (he : st.e = 0) : st.set.1.e ≠ 0 := by
  have h0 : st.rest = byteW a ++ (45 :: (byteW b ++ 93 :: z)) := by rw [h]; simp
  have hn : ¬ st.rest.head? = some 94 := by rw [h0]; exact byte_not94 a ha _
  have hs := setStep_rng a b ha hb st BS.none z h
  rw [if_pos hab] at hs
  obtain ⟨k, hk⟩ : ∃ k, st.rest.length + 1 = k + 2 := ⟨st.rest.length - 1, by rw [h]; simp; omega⟩
  have hf : ((st.adv (byteW a ++ [45] ++ byteW b).length).fail 2).e ≠ 0 := by
    unfold fail
    show (if st.e = 0 then 2 else st.e) ≠ 0
    rw [if_pos he]; omega
  have hg : setGo (k + 2) st BS.none = ((st.adv (byteW a ++ [45] ++ byteW b).length).fail 2, RE.orS BS.none (fromS a b)) := by
    rw [setGo, if_pos ⟨he, by rw [h0]; exact byte_not93 a ha _⟩, hs]
    simp only
    rw [setGo, if_neg (fun hc => hf hc.1)]
  unfold set
  simp only [hn, decide_false, Bool.false_eq_true, if_false]
  rw [hk, hg]
  exact hf
theorem atom_bad (f : PS → PS × Option RE) (a b : Nat) (ha : a < 256) (hb : b < 256) (hab : b < a) : (atom f ⟨[91] ++ (byteW a ++ [45] ++ byteW b) ++ [93], 0, 0, 0, 0, 0⟩).1.e ≠ 0 := by
  rw [atom_body _ _ (by show Nol wsL (91 :: _); intro c hc; cases hc; rfl) (by show 0 + 1 ≤ 1000; omega)]
  have h4 : (past ⟨[91] ++ (byteW a ++ [45] ++ byteW b) ++ [93], 0, 0, 0, 0, 0⟩ 0 1).rest = 91 :: (byteW a ++ [45] ++ byteW b ++ 93 :: []) := by rw [past0_rest]; simp
  have he : (past ⟨[91] ++ (byteW a ++ [45] ++ byteW b) ++ [93], 0, 0, 0, 0, 0⟩ 0 1).e = 0 := rfl
  generalize past ⟨[91] ++ (byteW a ++ [45] ++ byteW b) ++ [93], 0, 0, 0, 0, 0⟩ 0 1 = st at *
  unfold atomB
  rw [if_neg (by rw [h4]; simp), if_pos (by rw [h4]; rfl)]
  exact set_bad a b ha hb hab (st.adv 1) [] (by show st.rest.drop 1 = _; rw [h4]; rfl) he
end PS
theorem byte_len (b : Nat) : (byteW b).length ≤ 4 := byteW_len b
theorem single_run (b : Nat) (hb : b < 256) : RE.orS BS.none (BS.run b 1) = BS.none.add b := BS.ext_has fun j hj => by
  rw [PS.has_orS _ _ _ hj, BS.has_none, BS.has_run _ _ hj _ (by omega), BS.has_add _ _ _ hb hj, BS.has_none]
  congr 1
  exact decide_eq_decide.2 (by omega)
theorem one_ofL (b : Nat) : BS.ofL [(b : Int)] = BS.none.add b := by
  simp [BS.ofL]
theorem or_none (s : BS) : RE.orS BS.none s = s := BS.ext_has fun j hj => by
  rw [PS.has_orS _ _ _ hj, BS.has_none]; simp
theorem one_size' (s : BS) : (RE.one s).size = 1 := by unfold RE.one; split <;> simp [RE.nothing, RE.size, RE.sizes]
/-- the five texts -/
theorem byte_read (b : Nat) (hb : b < 256) : readW (byteW b) = (some (RE.one (BS.ofL [(b : Int)])), 0, 0) := by
  rw [one_ofL]
  exact read_atom (PS.rd_byte b hb) (PS.start_byte b hb) (RE.nf_one _) (by omega) (by omega) (by have := byte_len b; omega) (by rw [one_size']; omega)
theorem set_read (b : Nat) (hb : b < 256) : readW ([91] ++ byteW b ++ [93]) = (some (RE.one (BS.ofL [(b : Int)])), 0, 0) := by
  rw [one_ofL, ← single_run b hb]
  exact read_atom (PS.rd_set (PS.set_one b hb)) ⟨91, byteW b ++ [93], by simp, by decide⟩ (RE.nf_one _) (by omega) (by omega) (by have := byte_len b; simp; omega) (by rw [one_size']; omega)
theorem not_read (b : Nat) (hb : b < 256) : readW ([91] ++ ([94] ++ byteW b) ++ [93]) = (some (RE.one (PS.set.notS' (BS.ofL [(b : Int)]))), 0, 0) := by
  rw [one_ofL, ← single_run b hb]
  exact read_atom (PS.rd_set (PS.set_oneNot b hb)) ⟨91, [94] ++ byteW b ++ [93], by simp, by decide⟩ (RE.nf_one _) (by omega) (by omega) (by have := byte_len b; simp; omega) (by rw [one_size']; omega)
theorem rng_read (a b : Nat) (ha : a < 256) (hb : b < 256) (hab : a ≤ b) : readW ([91] ++ (byteW a ++ [45] ++ byteW b) ++ [93]) = (some (RE.one (BS.run a (b + 1 - a))), 0, 0) := by
  have e : BS.run a (b + 1 - a) = RE.orS BS.none (PS.fromS a b) := by rw [or_none]; rfl
  rw [e]
  exact read_atom (PS.rd_set (PS.set_rng a b ha hb hab)) ⟨91, (byteW a ++ [45] ++ byteW b) ++ [93], by simp, by decide⟩ (RE.nf_one _) (by omega) (by omega) (by have := byte_len a; have := byte_len b; simp; omega) (by rw [one_size']; omega)
theorem bad_read (a b : Nat) (ha : a < 256) (hb : b < 256) (hab : b < a) : (readW ([91] ++ (byteW a ++ [45] ++ byteW b) ++ [93])).2.1 ≠ 0 :=
  read_err (by have := byte_len a; have := byte_len b; simp; omega) rfl (PS.atom_bad _ a b ha hb hab)
end Go.Proofs.YtpajpjocakhcdaaGreatDoor
namespace Go.Proofs.YtpajpjocakhcdaaGreatDoor
open Go.RowKit
theorem read_by {s : List UInt8} {z : ByteArray} {r : Option RE × Nat × Nat} (W : World) (hz : z = ⟨s.toArray⟩) (hl : s.length ≤ 1099511627776) (h : readW s = r) : Calls Tryz.prog 28 #[.string z] W (ReadPost W r) := by
  subst hz; exact h ▸ Read_any s hl W
theorem Of1_any (x : Nat) (hx : x ≤ 255) (t : TypeId) (W : World) : Calls Tryz.prog 35 #[.slice (some ⟨W.heap.size, 0, none⟩) 1 1] (W.alloc (.cells #[.int .u8 (x : Int)] t)) fun e w' => e = .returned (aggS (BS.ofL [(x : Int)])) ∧ Below W.heap.size W w' :=
  (Of_any W.heap.size 0 1 [(x : Int)] (fun i hi => by
    obtain rfl : i = 0 := by simpa using hi
    exact ⟨by simp, by simpa using (show (x : Int) ≤ 255 by omega)⟩) (by simp) (W.alloc (.cells #[.int .u8 (x : Int)] t)) (fun i hi => by
    obtain rfl : i = 0 := by simpa using hi
    rw [World.cell?_alloc_new]; rfl)).mono fun e w' ⟨he, hb⟩ => ⟨he, (re_alloc W _).trans (hb.mono (by simp))⟩
theorem OneS_any (s : BS) (w : World) : Calls Tryz.prog 34 #[aggS s] w fun e w' => ∃ b, e = .returned (ptr b) ∧ IsReO w' (ptr b) (some (RE.one s)) ∧ Below w.heap.size w w' :=
  (One_any s.a s.b s.c s.d w).mono fun e w' ⟨b, he, h1, h2⟩ => ⟨b, he, ⟨b, rfl, h1.is⟩, h2⟩
theorem NotS_any (s : BS) (w : World) : Calls Tryz.prog 37 #[aggS s] w fun e w' => e = .returned (aggS (PS.set.notS' s)) ∧ Below w.heap.size w w' := Not_any s.a s.b s.c s.d w
theorem FromS_any (low high : Nat) (hlo : low < 256) (hhi : high < 256) (w : World) : Calls Tryz.prog 36 #[.int .u8 (low : Int), .int .u8 (high : Int)] w fun e w' => e = .returned (aggS (BS.run low (high + 1 - low))) ∧ Below w.heap.size w w' := From_any low high hlo hhi w
theorem same_same (o : Option RE) : sameB o o = true := decide_eq_true rfl
set_option maxRecDepth 100000 in
set_option maxHeartbeats 8000000 in
theorem TextBytes_any (a b : Nat) (w : World) (hT : Tab w) (ha : a < 256) (hb : b < 256) : Calls Tryz.prog 8 #[.int .u8 (a : Int), .int .u8 (b : Int)] w fun e w' => e = .returned (.bool true) ∧ Below w.heap.size w w' := by
  have HH := Lib.hid (txHead_any w hT)
  clear hT
  go_enter Tryz.func8, Tryz.ntmps8
  go_wp2_with fail
  refine HH.out.mono ?_
  rintro e w1 ⟨rfl, hb1⟩
  have HB1 := Lib.hid hb1
  clear hb1 HH
  go_wp2_with fail
  refine (Byte_any a ha _).mono ?_
  rintro e w2 ⟨rfl, hb2⟩
  have HB2 := Lib.hid (HB1.out.trans (hb2.mono HB1.out.size))
  clear hb2
  have hl1 := byte_len a
  have hl2 := byte_len b
  generalize hz : (⟨(byteW a).toArray⟩ : ByteArray) = Z at *
  have hZs : Z.size ≤ 4 := by rw [← hz, str_size]; exact hl1
  go_wp2_with fail
  refine (read_by _ hz.symm (by omega) (byte_read a ha)).mono ?_
  rintro e w3 ⟨v1, rfl, hre1, hb3⟩
  have HB3 := Lib.hid (HB2.out.trans (hb3.mono HB2.out.size))
  have HR3 := Lib.hid hre1
  obtain ⟨k1, rfl, _⟩ := hre1
  clear hb3
  go_wp2_with fail
  refine (read_by _ (show _ = (⟨([91] ++ byteW a ++ [93]).toArray⟩ : ByteArray) by rw [← hz]; exact ByteArray.ext (by simp)) (by simp; omega) (set_read a ha)).mono ?_
  rintro e w4 ⟨v2, rfl, hre2, hb4⟩
  have HB4 := Lib.hid (HB3.out.trans (hb4.mono HB3.out.size))
  have HR4 := Lib.hid (HR3.out.later hb4)
  have HS4 := Lib.hid hre2
  obtain ⟨k2, rfl, _⟩ := hre2
  clear hb4 HR3
  obtain ⟨lo, hi, hmn, hmx, hlh, hlo, hhi, hiff⟩ : ∃ lo hi : Nat, min (a : Int) b = lo ∧ max (a : Int) b = hi ∧ lo ≤ hi ∧ lo < 256 ∧ hi < 256 ∧ (lo = hi ↔ a = b) := ⟨min a b, max a b, by omega, by omega, by omega, by omega, by omega, by omega⟩
  have HMN := Lib.hid hmn
  have HMX := Lib.hid hmx
  have HEQ := Lib.hid (show decide ((a : Int) = b) = decide (lo = hi) from decide_eq_decide.2 (by omega))
  clear hmn hmx hl2 hiff
  have hl3 := byte_len lo
  have hl4 := byte_len hi
  go_wp2_with fail
  rw [HMN.out]
  refine (Byte_any lo hlo _).mono ?_
  rintro e w5 ⟨rfl, hb5⟩
  have HB5 := Lib.hid (HB4.out.trans (hb5.mono HB4.out.size))
  have HR5 := Lib.hid (HR4.out.later hb5)
  have HS5 := Lib.hid (HS4.out.later hb5)
  clear hb5 HR4 HS4
  generalize hzl : (⟨(byteW lo).toArray⟩ : ByteArray) = L at *
  have hLs : L.size ≤ 4 := by rw [← hzl, str_size]; exact hl3
  go_wp2_with fail
  rw [HMX.out]
  refine (Byte_any hi hhi _).mono ?_
  rintro e w6 ⟨rfl, hb6⟩
  have HB6 := Lib.hid (HB5.out.trans (hb6.mono HB5.out.size))
  have HR6 := Lib.hid (HR5.out.later hb6)
  have HS6 := Lib.hid (HS5.out.later hb6)
  clear hb6 HR5 HS5
  generalize hzh : (⟨(byteW hi).toArray⟩ : ByteArray) = H at *
  have hHs : H.size ≤ 4 := by rw [← hzh, str_size]; exact hl4
  go_wp2_with fail
  refine (read_by _ (show _ = (⟨([91] ++ (byteW lo ++ [45] ++ byteW hi) ++ [93]).toArray⟩ : ByteArray) by rw [← hzl, ← hzh]; exact ByteArray.ext (by simp)) (by simp; omega) (rng_read lo hi hlo hhi hlh)).mono ?_
  rintro e w7 ⟨v3, rfl, hre7, hb7⟩
  have HB7 := Lib.hid (HB6.out.trans (hb7.mono HB6.out.size))
  have HR7 := Lib.hid (HR6.out.later hb7)
  have HS7 := Lib.hid (HS6.out.later hb7)
  have HU7 := Lib.hid hre7
  obtain ⟨k3, rfl, _⟩ := hre7
  clear hb7 HR6 HS6
  go_wp2_with fail
  rw [HMX.out]
  refine (Byte_any hi hhi _).mono ?_
  rintro e w8 ⟨rfl, hb8⟩
  have HB8 := Lib.hid (HB7.out.trans (hb8.mono HB7.out.size))
  have HR8 := Lib.hid (HR7.out.later hb8)
  have HS8 := Lib.hid (HS7.out.later hb8)
  have HU8 := Lib.hid (HU7.out.later hb8)
  clear hb8 HR7 HS7 HU7
  rw [hzh]
  go_wp2_with fail
  rw [HMN.out]
  refine (Byte_any lo hlo _).mono ?_
  rintro e w9 ⟨rfl, hb9⟩
  have HB9 := Lib.hid (HB8.out.trans (hb9.mono HB8.out.size))
  have HR9 := Lib.hid (HR8.out.later hb9)
  have HS9 := Lib.hid (HS8.out.later hb9)
  have HU9 := Lib.hid (HU8.out.later hb9)
  clear hb9 HR8 HS8 HU8
  rw [hzl]
  have HBAD : Hid (∃ r e at_, readW ([91] ++ (byteW hi ++ [45] ++ byteW lo) ++ [93]) = (r, e, at_) ∧ decide (e = 0) = decide (lo = hi)) := by
    by_cases hh : lo = hi
    · subst hh
      exact ⟨_, _, _, rng_read lo lo hlo hlo (Nat.le_refl _), by simp⟩
    · have hbd := bad_read hi lo hhi hlo (by omega)
      cases hq : readW ([91] ++ (byteW hi ++ [45] ++ byteW lo) ++ [93]) with
      | mk r p =>
        obtain ⟨e', at'⟩ := p
        rw [hq] at hbd
        exact ⟨r, e', at', rfl, by rw [decide_eq_false hbd, decide_eq_false hh]⟩
  obtain ⟨rb, eb, ab, hbad, heb⟩ := HBAD.out
  have HEB := Lib.hid heb
  have HRB := Lib.hid hbad
  clear HBAD heb hbad
  go_wp2_with fail
  refine (read_by _ (show _ = (⟨([91] ++ (byteW hi ++ [45] ++ byteW lo) ++ [93]).toArray⟩ : ByteArray) by rw [← hzl, ← hzh]; exact ByteArray.ext (by simp)) (by simp; omega) HRB.out).mono ?_
  rintro e w10 ⟨v4, rfl, hre10, hb10⟩
  have HB10 := Lib.hid (HB9.out.trans (hb10.mono HB9.out.size))
  have HR10 := Lib.hid (HR9.out.later hb10)
  have HS10 := Lib.hid (HS9.out.later hb10)
  have HU10 := Lib.hid (HU9.out.later hb10)
  clear hb10 HR9 HS9 HU9 hre10
  go_wp2_with fail
  refine (read_by _ (show _ = (⟨([91] ++ ([94] ++ byteW a) ++ [93]).toArray⟩ : ByteArray) by rw [← hz]; exact ByteArray.ext (by simp)) (by simp; omega) (not_read a ha)).mono ?_
  rintro e w11 ⟨v5, rfl, hre11, hb11⟩
  have HB11 := Lib.hid (HB10.out.trans (hb11.mono HB10.out.size))
  have HR11 := Lib.hid (HR10.out.later hb11)
  have HS11 := Lib.hid (HS10.out.later hb11)
  have HU11 := Lib.hid (HU10.out.later hb11)
  have HV11 := Lib.hid hre11
  obtain ⟨k5, rfl, _⟩ := hre11
  clear hb11 HR10 HS10 HU10
  go_wp2_with fail
  refine (Of1_any a (by omega) _ w11).mono ?_
  rintro e w12 ⟨rfl, hb12⟩
  have HB12 := Lib.hid (HB11.out.trans (hb12.mono HB11.out.size))
  have HR12 := Lib.hid (HR11.out.later hb12)
  have HS12 := Lib.hid (HS11.out.later hb12)
  have HU12 := Lib.hid (HU11.out.later hb12)
  have HV12 := Lib.hid (HV11.out.later hb12)
  clear hb12 HR11 HS11 HU11 HV11
  go_wp2_with fail
  refine (OneS_any _ _).mono ?_
  rintro e w13 ⟨q1, rfl, hq1, hb13⟩
  have HB13 := Lib.hid (HB12.out.trans (hb13.mono HB12.out.size))
  have HR13 := Lib.hid (HR12.out.later hb13)
  have HS13 := Lib.hid (HS12.out.later hb13)
  have HU13 := Lib.hid (HU12.out.later hb13)
  have HV13 := Lib.hid (HV12.out.later hb13)
  clear hb13 HR12 HS12 HU12 HV12
  go_wp2_with fail
  refine (Same_any _ _ _ _ _ HR13.out hq1).mono ?_
  rintro e w13' ⟨rfl, rfl⟩
  rw [same_same]
  clear hq1
  go_wp2_with fail
  refine (Same_any _ _ _ _ _ HS13.out HR13.out).mono ?_
  rintro e w13' ⟨rfl, rfl⟩
  rw [same_same]
  clear HS13 HR13
  go_wp2_with fail
  rw [HMN.out, HMX.out]
  refine (FromS_any lo hi hlo hhi _).mono ?_
  rintro e w14 ⟨rfl, hb14⟩
  have HB14 := Lib.hid (HB13.out.trans (hb14.mono HB13.out.size))
  have HU14 := Lib.hid (HU13.out.later hb14)
  have HV14 := Lib.hid (HV13.out.later hb14)
  clear hb14 HU13 HV13
  go_wp2_with fail
  refine (OneS_any _ _).mono ?_
  rintro e w15 ⟨q2, rfl, hq2, hb15⟩
  have HB15 := Lib.hid (HB14.out.trans (hb15.mono HB14.out.size))
  have HU15 := Lib.hid (HU14.out.later hb15)
  have HV15 := Lib.hid (HV14.out.later hb15)
  clear hb15 HU14 HV14
  go_wp2_with fail
  refine (Same_any _ _ _ _ _ HU15.out hq2).mono ?_
  rintro e w15' ⟨rfl, rfl⟩
  rw [same_same]
  clear hq2 HU15
  have hcc : (eb = 0 ∧ a = b) ∨ (eb ≠ 0 ∧ a ≠ b) := by
    have h1 := HEB.out
    have h2 := HEQ.out
    rw [← h2] at h1
    by_cases h : a = b
    · rw [decide_eq_true (show (a : Int) = b by omega)] at h1
      exact .inl ⟨of_decide_eq_true h1, h⟩
    · rw [decide_eq_false (show ¬ (a : Int) = b by omega)] at h1
      exact .inr ⟨of_decide_eq_false h1, h⟩
  clear HEB HEQ HMN HMX hlh hlo hhi hl1 hl3 hl4 hz hzl hzh hZs hLs hHs
  rcases hcc with ⟨rfl, rfl⟩ | ⟨he0, hab⟩
  case' inr => have he1 : ¬ (eb : Int) = 0 := by omega
  case' inr => have hab1 : ¬ (a : Int) = b := by omega
  case' inr => have hq : ((eb : Int) == 0) = ((a : Int) == (b : Int)) := by rw [beq_eq_false_iff_ne.2 he1, beq_eq_false_iff_ne.2 hab1]
  all_goals (
    go_wp2_with fail
    refine (Of1_any a (by omega) _ w15').mono ?_
    rintro e w16 ⟨rfl, hb16⟩
    have HB16 := Lib.hid (HB15.out.trans (hb16.mono HB15.out.size))
    have HV16 := Lib.hid (HV15.out.later hb16)
    clear hb16 HV15
    go_wp2_with fail
    refine (NotS_any _ _).mono ?_
    rintro e w17 ⟨rfl, hb17⟩
    have HB17 := Lib.hid (HB16.out.trans (hb17.mono HB16.out.size))
    have HV17 := Lib.hid (HV16.out.later hb17)
    clear hb17 HV16
    go_wp2_with fail
    refine (OneS_any _ _).mono ?_
    rintro e w18 ⟨q3, rfl, hq3, hb18⟩
    have HB18 := Lib.hid (HB17.out.trans (hb18.mono HB17.out.size))
    have HV18 := Lib.hid (HV17.out.later hb18)
    clear hb18 HV17
    go_wp2_with fail
    refine (Same_any _ _ _ _ _ HV18.out hq3).mono ?_
    rintro e w18' ⟨rfl, rfl⟩
    rw [same_same]
    clear hq3 HV18
    go_wp2_with fail
    go_ret
    exact ⟨rfl, HB18.out⟩)
end Go.Proofs.YtpajpjocakhcdaaGreatDoor
