/-
  The expression that a text is, or the error: walked through the program.
-/
import Derived.Test.YticpjjmacmmpjaaGreatDoorPsE
set_option linter.unusedSimpArgs false
set_option linter.unusedVariables false
set_option maxRecDepth 100000
set_option linter.unnecessarySimpa false
namespace Go.Proofs.YticpjjmacmmpjaaGreatDoor
open Go.RowKit
/-- what Read hands back -/
def ReadPost (w : World) (r : Option RE × Nat × Nat) (e : Ending) (w' : World) : Prop := ∃ v, e = .returned (.tuple #[v, .int .i64 (r.2.1 : Nat), .int .i64 (r.2.2 : Nat)]) ∧ IsReO w' v r.1 ∧ Below w.heap.size w w'
theorem far_below {w W : World} {o : Obj} (h : Far w.heap.size (w.alloc o) W) : Below w.heap.size w W := by
  have hx := re_alloc w o
  have hs := h.size
  refine ⟨h.os.trans hx.os, h.tape.trans hx.tape, h.output.trans hx.output, by simp at hs; omega, fun k hk => ?_⟩
  exact (h.block k (by simp; omega) (fun e => by have := Option.some.inj e; omega)).trans (hx.block k hk)
theorem readS_res (s : List UInt8) : PS.Res 93 ⟨s, 0, 0, 0, 0, 0⟩ ((readS s).1, some (readS s).2) :=
  PS.orS_res (d := 60) (f := PS.orN 60) (fun d' e => by obtain rfl : d' = 59 := by omega
                                                        exact PS.orN_res 59) _ ⟨rfl, by simp, rfl⟩
theorem ne_tuple (e : Nat) (h : e ≠ 0) : (((e : Nat) : Int) != 0) = true ∧ (((e : Nat) : Int) == 0) = false := by
  have : (((e : Nat) : Int) == 0) = false := by rw [beq_eq_false_iff_ne]; omega
  exact ⟨by rw [bne, this]; rfl, this⟩
set_option maxRecDepth 100000 in
set_option maxHeartbeats 8000000 in
theorem Read_any (s : List UInt8) (hl : s.length ≤ 1099511627776) (w : World) : Calls Tryz.prog 23 #[.string ⟨s.toArray⟩] w (ReadPost w (readW s)) := by
  have hsz : (⟨s.toArray⟩ : ByteArray).size = s.length := str_size s
  by_cases hbig : 65536 < s.length
  · have HR : Hid (readW s = (none, 3, 0)) := by show _ = _; unfold readW; rw [if_pos hbig]
    rw [HR.out]
    have hb' : (65536 : Int) < (s.length : Nat) := by omega
    go_enter Tryz.func23, Tryz.ntmps23
    go_wp2_with fail
    go_ret3
    exact ⟨_, rfl, rfl, Below.refl _ _⟩
  · have hs : s.length ≤ 65536 := by omega
    have hb' : ¬ (65536 : Int) < (s.length : Nat) := by omega
    have HR : Hid (readW s = if (readE s).e = 0 then (some (readS s).2, 0, 0) else (none, (readE s).e, (readE s).wh)) := by show _ = _; unfold readW; rw [if_neg hbig]
    have HEE : Hid (readE s = if (if (readS s).1.e = 0 then (if (readS s).1.skip.rest = [] then (readS s).1.skip else (readS s).1.skip.fail 2) else (readS s).1).e = 0 ∧ 1000 < (readS s).2.size then { (if (readS s).1.e = 0 then (if (readS s).1.skip.rest = [] then (readS s).1.skip else (readS s).1.skip.fail 2) else (readS s).1) with at_ := 0 }.fail 3 else (if (readS s).1.e = 0 then (if (readS s).1.skip.rest = [] then (readS s).1.skip else (readS s).1.skip.fail 2) else (readS s).1)) := rfl
    have hp0 : PAt (w.alloc (.cells (psCells s ⟨s, 0, 0, 0, 0, 0⟩) 108)) w.heap.size s ⟨s, 0, 0, 0, 0, 0⟩ := ⟨heap_alloc_last w _, rfl, by simp⟩
    have HOR := Lib.hid (orS_any 60 w.heap.size s hs (PS.orN 60) (fun d' e => by
      obtain rfl : d' = 59 := by omega
      exact ⟨PS.orN_res 59, or_all w.heap.size s hs 59, PS.orN_dk 59⟩) ⟨s, 0, 0, 0, 0, 0⟩ _ hp0 ⟨rfl, by simp, rfl⟩)
    have HRES := Lib.hid (readS_res s)
    have HBF := Lib.hid (fun W (h : Far w.heap.size (w.alloc (.cells (psCells s ⟨s, 0, 0, 0, 0, 0⟩) 108)) W) => far_below h)
    have hrd : ((PS.orS (PS.orN 60) ⟨s, 0, 0, 0, 0, 0⟩).1, some (PS.orS (PS.orN 60) ⟨s, 0, 0, 0, 0, 0⟩).2) = ((readS s).1, some (readS s).2) := rfl
    rw [hrd] at HOR
    clear hp0 hrd hbig
    generalize readW s = RW at *
    generalize readE s = RE_ at *
    generalize readS s = R at *
    obtain ⟨st, x⟩ := R
    go_enter Tryz.func23, Tryz.ntmps23
    go_wp2_with fail
    refine HOR.out.mono ?_
    rintro e w1 ⟨v1, rfl, hre1, hp1, hf1⟩
    obtain ⟨xb, rfl, hx1⟩ := hre1
    have HX1 := Lib.hid hx1
    have HP1 := Lib.hid hp1
    have HF1 := Lib.hid hf1
    have c4 := hp1.cells.2.2.2.2.1
    clear hx1 hp1 hf1 HOR
    by_cases he : st.e = 0
    · have ge : (((st.e : Nat) : Int) == 0) = true := by rw [he]; rfl
      have HE := Lib.hid he
      have HEE2 : Hid (RE_ = if (if st.skip.rest = [] then st.skip else st.skip.fail 2).e = 0 ∧ 1000 < x.size then { (if st.skip.rest = [] then st.skip else st.skip.fail 2) with at_ := 0 }.fail 3 else (if st.skip.rest = [] then st.skip else st.skip.fail 2)) := by
        show _ = _
        have := HEE.out
        simp only [he, if_true] at this
        exact this
      clear he HEE
      generalize st.e = en at c4 ge
      go_wp2_with fail
      refine (psPeek_any w.heap.size s st _ HP1.out hs).mono ?_
      rintro e w2 ⟨rfl, hp2, hf2⟩
      have HX2 := Lib.hid (HX1.out.far HP1.out hf2)
      have HP2 := Lib.hid hp2
      have HF2 := Lib.hid (HF1.out.trans hf2)
      have d1 := hp2.cells.2.1
      have htot := hp2.tot
      have HSKE : Hid (st.skip.e = 0) := HE.out
      clear hp2 hf2 c4 ge
      generalize st.skip = sk at *
      by_cases hr : sk.rest = []
      · have hh : sk.head = 0 := by show sk.rest.headD 0 = 0; rw [hr]; rfl
        have ge : (((sk.head.toNat : Nat) : Int) == 0) = true := by rw [hh]; decide
        have gne : (((sk.head.toNat : Nat) : Int) != 0) = false := by rw [hh]; decide
        have hc1 : ¬ ((sk.at_ : Nat) : Int) < (s.length : Nat) := by rw [hr] at htot; simp at htot; omega
        have hc2 : ¬ sk.at_ < s.length := by omega
        have HEE3 : Hid (RE_ = if 1000 < x.size then { sk with at_ := 0 }.fail 3 else sk) := by
          show _ = _
          have := HEE2.out
          rw [if_pos hr] at this
          rw [this]
          by_cases hz : 1000 < x.size
          · rw [if_pos ⟨HSKE.out, hz⟩, if_pos hz]
          · rw [if_neg (fun h => hz h.2), if_neg hz]
        have d4 := HP2.out.cells.2.2.2.2.1
        have e4 : ((sk.e : Nat) : Int) = 0 := by rw [HSKE.out]; rfl
        rw [e4] at d4
        have HS := Lib.hid (fun W (h : IsReO W (ptr xb) (some x)) => Size_any (ptr xb) (some x) W h)
        have hsx : RE.sizeO (some x) = x.size := rfl
        rw [hsx] at HS
        clear hr hh htot HEE2 e4 hsx
        generalize sk.at_ = a at *
        generalize sk.head.toNat = hn at *
        obtain ⟨z, HZ⟩ : ∃ z, Hid (x.size = z) := ⟨_, rfl⟩
        rw [HZ.out] at HS HEE3
        go_wp2_with fail
        refine (HS.out _ ⟨xb, rfl, HX2.out⟩).mono ?_
        rintro e w3 ⟨rfl, rfl⟩
        by_cases hz : 1000 < z
        · have hz' : (1000 : Int) < (z : Int) := by omega
          have f1 := HP2.out.frz 1
          have hp4 : PAt (w3.setCell ⟨w.heap.size, 1, none⟩ (.int .i64 0)) w.heap.size s { sk with at_ := 0, rest := s } := HP2.out.put 1 _ (by rfl) rfl (by simp)
          have HP4 := Lib.hid hp4
          have HF4 := Lib.hid (HF2.out.set 1 (.int .i64 0))
          have HQ : Hid (RE_.e = 3 ∧ RE_.wh = 0) := by
            show _ ∧ _
            rw [HEE3.out, if_pos hz]
            simp [PS.fail, HSKE.out]
          have hf0 : ({ sk with at_ := 0, rest := s } : PS).fail 3 = { sk with at_ := 0 + s.length, rest := [], e := 3, wh := 0 } := by simp [PS.fail, HSKE.out]
          have HFS := Lib.hid hf0
          have HRN : Hid (RW = (none, 3, 0)) := by
            show _ = _
            rw [HR.out, HQ.out.1, HQ.out.2]; rfl
          clear hz hp4 hf0 HEE3
          go_wp2_with fail
          refine (psFail_any w.heap.size s _ _ HP4.out hs 3 (by omega)).mono ?_
          rintro e w5 ⟨rfl, hp5, hf5⟩
          rw [HFS.out] at hp5
          have HP5 := Lib.hid hp5
          have HF5 := Lib.hid (HF4.out.trans hf5)
          clear hp5 hf5
          have k4 : w5.cell? ⟨w.heap.size, 4, none⟩ = some (.int .i64 3) := HP5.out.cells.2.2.2.2.1
          have k5 : w5.cell? ⟨w.heap.size, 5, none⟩ = some (.int .i64 0) := HP5.out.cells.2.2.2.2.2
          go_wp2_with fail
          go_quiet (fail)
          go_wp2_with fail
          go_ret3
          rw [HRN.out]
          exact ⟨.pointer none, rfl, rfl, HBF.out _ (HF5.out.drew _)⟩
        · have hz' : ¬ (1000 : Int) < (z : Int) := by omega
          have HRN : Hid (RW = (some x, 0, 0)) := by
            show _ = _
            rw [HR.out, HEE3.out, if_neg hz, HSKE.out]; rfl
          clear hz
          go_wp2_with fail
          go_ret3
          rw [HRN.out]
          exact ⟨_, rfl, ⟨xb, rfl, HX2.out⟩, HBF.out _ HF2.out⟩
      · have hlt : sk.at_ < s.length := by have := List.length_pos_iff.2 hr; omega
        have hc1 : ((sk.at_ : Nat) : Int) < (s.length : Nat) := by omega
        have HQ : Hid (RE_.e = 2 ∧ RE_.wh = sk.at_) := by
          show _ ∧ _
          have := HEE2.out
          rw [if_neg hr] at this
          rw [this, if_neg (by simp [PS.fail, HSKE.out])]
          simp [PS.fail, HSKE.out]
        have HRN : Hid (RW = (none, 2, sk.at_)) := by
          show _ = _
          rw [HR.out, HQ.out.1, HQ.out.2]; rfl
        have hfe : (sk.fail 2).e = 2 ∧ (sk.fail 2).wh = sk.at_ := by simp [PS.fail, HSKE.out]
        have HFE := Lib.hid hfe
        clear hr htot hfe HEE2
        obtain ⟨a, HAT⟩ : ∃ a, Hid (sk.at_ = a) := ⟨_, rfl⟩
        rw [HAT.out] at d1 hlt hc1 HRN HFE
        have e0 := byteIs sk.head 0 (by omega)
        generalize decide (sk.head = (0 : Nat).toUInt8) = z at e0
        have e0' : (((sk.head.toNat : Nat) : Int) == 0) = z := e0
        have e1' : (((sk.head.toNat : Nat) : Int) != 0) = !z := by rw [bne, e0']
        clear e0
        generalize sk.head.toNat = hn at *
        cases z
        all_goals
          go_wp2_with fail
          refine (psFail_any w.heap.size s sk _ HP2.out hs 2 (by omega)).mono ?_
          rintro e w5 ⟨rfl, hp5, hf5⟩
          have HP5 := Lib.hid hp5
          have HF5 := Lib.hid (HF2.out.trans hf5)
          have k4 := HP5.out.cells.2.2.2.2.1
          have k5 := HP5.out.cells.2.2.2.2.2
          rw [HFE.out.1] at k4
          rw [HFE.out.2] at k5
          clear hp5 hf5
          go_wp2_with fail
          go_quiet (fail)
          go_wp2_with fail
          go_ret3
          rw [HRN.out]
          exact ⟨.pointer none, rfl, rfl, HBF.out _ (HF5.out.drew _)⟩
    · obtain ⟨gne, ge⟩ := ne_tuple st.e he
      have HRN : Hid (RW = (none, st.e, st.wh)) := by
        have hE := HEE.out
        simp only [he, if_false, false_and] at hE
        show _ = _
        rw [HR.out, hE, if_neg he]
      have c5 := HP1.out.cells.2.2.2.2.2
      clear he HEE
      go_wp2_with fail
      go_quiet (fail)
      go_wp2_with fail
      go_ret3
      rw [HRN.out]
      exact ⟨.pointer none, rfl, rfl, HBF.out _ (HF1.out.drew _)⟩
end Go.Proofs.YticpjjmacmmpjaaGreatDoor
