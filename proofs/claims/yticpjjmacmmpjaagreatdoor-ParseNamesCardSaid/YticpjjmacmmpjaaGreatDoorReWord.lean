/-
  'Word', walked through the program: the expression of one text.
-/
import Derived.Test.YticpjjmacmmpjaaGreatDoorReIn
import Derived.Test.YticpjjmacmmpjaaGreatDoorSetX
import Derived.Lib.ConvBytes
set_option linter.unusedSimpArgs false
set_option linter.unusedVariables false
set_option maxRecDepth 100000
set_option linter.unnecessarySimpa false
namespace Go.Proofs.YticpjjmacmmpjaaGreatDoor
open Go.RowKit
theorem below_bytes (w : World) (e : TypeId) (s : ByteArray) : Below w.heap.size w (Lib.bytesWorld w e s) :=
  ⟨by unfold Lib.bytesWorld World.freeze; split <;> rfl, by unfold Lib.bytesWorld World.freeze; split <;> rfl, by unfold Lib.bytesWorld World.freeze; split <;> rfl, by rw [Lib.bytesWorld_size]; omega, fun k hk => Lib.bytesWorld_at_old _ _ _ _ hk⟩
/-- the parts of a text's expression -/
def RE.byteRE (b : UInt8) : RE := RE.one (BS.ofL [(b.toNat : Int)])
def RE.wordL (l : List UInt8) : RE := RE.thenL (l.map fun b => some (RE.byteRE b))
theorem RE.one_op (s : BS) : (RE.one s).op = 0 ∨ (RE.one s).op = 2 := by unfold RE.one; split <;> simp [RE.nothing, RE.op]
theorem RE.one_size (s : BS) : (RE.one s).size = 1 := by unfold RE.one; split <;> simp [RE.nothing, RE.size, RE.sizes]
theorem flat_word (l : List UInt8) : RE.flat 3 (l.map fun b => some (RE.byteRE b)) = l.map RE.byteRE := by
  induction l with
  | nil => rfl
  | cons b l ih =>
    have h : RE.flat1 3 (some (RE.byteRE b)) = [RE.byteRE b] := by
      have := RE.one_op (BS.ofL [(b.toNat : Int)])
      show (if (RE.byteRE b).op = 3 then (RE.byteRE b).kids else [RE.byteRE b]) = _
      rw [if_neg (by unfold RE.byteRE; omega)]
    simp only [RE.flat] at ih ⊢
    rw [List.map_cons, List.flatMap_cons, ih, h]; rfl
theorem sizes_word (l : List UInt8) : RE.sizes (l.map RE.byteRE) = l.length := by
  induction l with
  | nil => rfl
  | cons b l ih => simp [RE.sizes, ih, RE.byteRE, RE.one_size]; omega
def WordAt (w : World) (l : List UInt8) (v i : Value) (wr : World) : Prop :=
  ∃ (k : Nat) (bs : List Nat), k ≤ l.length ∧ i = .int .i64 k ∧ OwnRe w ((l.take k).map RE.byteRE) bs v wr
set_option maxRecDepth 100000 in
set_option maxHeartbeats 4000000 in
theorem Word_any (l : List UInt8) (hl : l.length ≤ 1099511627776) (w : World) :
    Calls Tryz.prog 49 #[.string ⟨l.toArray⟩] w fun e w' => ∃ b, e = .returned (ptr b) ∧ IsRe w' b (RE.wordL l) ∧ Below w.heap.size w w' := by
  have hcv := Lib.run_convert_string_bytes (P := Tryz.prog) w 9 138 5 ⟨l.toArray⟩ undStr undBytes undByte
  have hbw := below_bytes w 5 ⟨l.toArray⟩
  have hcl := Lib.bytesWorld_cell w 5 ⟨l.toArray⟩
  have hsz := Lib.bytesWorld_size w 5 ⟨l.toArray⟩
  generalize Lib.bytesWorld w 5 ⟨l.toArray⟩ = W1 at *
  generalize grownCap w _ 0 5 = gc at hcv
  have hs : (⟨l.toArray⟩ : ByteArray).size = l.length := by simp [ByteArray.size]
  rw [hs] at hcv hcl
  clear hs
  have HBW := Lib.hid hbw
  have HCL := Lib.hid hcl
  have HSZ := Lib.hid hsz
  clear hbw hcl hsz
  obtain ⟨i0, hi, hz0, hz1, hz2⟩ := info_parts infoPtr
  have HI := Lib.hid hi; have HZ0 := Lib.hid hz0; have HZ1 := Lib.hid hz1; have HZ2 := Lib.hid hz2
  clear hi hz0 hz1 hz2
  go_enter Tryz.func49, Tryz.ntmps49
  go_wp2_with fail
  go_loopw [3, 9] (fun v i wr => WordAt W1 l v i wr) (fun _ i _ => l.length - (intOf i).toNat)
  case atStart => exact ⟨0, [], by omega, rfl, ⟨World.ownsRow_nil _ _ _ _, AreReX.nil, Below.refl _ _⟩⟩
  case round =>
    obtain ⟨k, bs, hk, rfl, hW⟩ := hrel
    by_cases hlt : k < l.length
    · have hc := HCL.out k hlt
      rw [← hW.bel.cell (p := ⟨w.heap.size, k, none⟩) (by rw [HSZ.out]; show w.heap.size < _; omega)] at hc
      have hbyte : ((l.getD k 0).toNat : Int) ≤ 255 := by have := (l.getD k 0).toNat_lt; omega
      have HNX : Hid ((l.take (k + 1)).map RE.byteRE = (l.take k).map RE.byteRE ++ [RE.one (BS.ofL [((l.getD k 0).toNat : Int)])]) := by
        show _ = _
        rw [List.take_succ_eq_append_getElem hlt, List.map_append]
        simp [RE.byteRE, List.getD, hlt]
      have hbl : bs.length ≤ 1099511627775 := by have := hW.are.1; rw [this]; simp; omega
      generalize (l.take k).map RE.byteRE = ls at *
      have hof := fun W (hc' : W.cell? ⟨wr.heap.size, 0, none⟩ = some (.int .u8 ((l.getD k 0).toNat : Int))) => Of_any wr.heap.size 0 1 [((l.getD k 0).toNat : Int)] (fun i hi => by
        obtain rfl : i = 0 := by simpa using hi
        exact ⟨by simp, by simpa using hbyte⟩) (by simp) W (fun i hi => by
        obtain rfl : i = 0 := by simpa using hi
        simpa using hc')
      generalize hz : BS.ofL [((l.getD k 0).toNat : Int)] = z at *
      generalize ((l.getD k 0).toNat : Int) = x at *
      obtain ⟨z0, z1, z2, z3⟩ := z
      have HOF := Lib.hid hof
      clear hof hz
      go_wp2_with fail
      refine (HOF.out _ (by simp)).mono ?_
      rintro e w2 ⟨rfl, hb2⟩
      have hB2 : Below wr.heap.size wr w2 := by repeat (first | exact Below.refl _ _ | assumption | refine Below.drew ?_ | refine ext_drewN ?_ _ | refine ext_alloc ?_ _ | refine Below.setCell ?_ (by (try simp only [World.size_alloc, World.size_setCell, World.size_drew]); omega) _ | refine ext_step ?_ (by assumption))
      clear hb2
      go_wp2_with fail
      refine (One_any z0 z1 z2 z3 _).mono ?_
      rintro e w3 ⟨b, rfl, h1, h2⟩
      have hB3 := ext_step hB2 h2
      have hW3 := hW.later hB3
      have hb3 : IsReX (· < wr.heap.size) w3 b (RE.one ⟨z0, z1, z2, z3⟩) := h1.mono fun k _ hk => by have := hB2.size; show k < w2.heap.size; omega
      clear hB2 h1 h2 hB3
      go_wp2_with (at_builtin; refine wpList_append_lies _ rfl _ _ _ rfl W1.heap.size 37 i0 _ 1 8 Tryz.underlying113 HI.out HZ0.out HZ1.out HZ2.out rfl (by omega) u3 bs.length (bs.map ptr) rfl (hW3.own.alloc _) ⟨w3.heap.size, 0, none⟩ 1 1 [ptr b] rfl rfl (World.news_of_block (cs := #[ptr b]) (t := 37) (fr := (0, 0)) (heap_alloc_last w3 _)) (ptr_one [b]) (by omega) (by unfold maxLen; omega) (by omega) (by have := hW3.bel.size; simp; omega) (w3.heap.size + 1) (by simp) ?_; intro g5 cp5 W9 hown9 hg9 hat9 hlt9)
      have hb1 : IsReX (fun k => u3.ownBlock = some k) (w3.alloc (.cells #[ptr b] 37)) b (RE.one ⟨z0, z1, z2, z3⟩) := (hb3.keep fun k hk _ => (re_alloc w3 _).block k hk).mono fun k _ e => (hW.own.lt k e).2
      have hW9 := (hW3.later (re_alloc w3 _)).appended (n := bs.length + 1) (AreReX.one hb1) (by simp) rfl hown9 hg9 hat9
      have HW9 : Hid (OwnRe W1 ((l.take (k + 1)).map RE.byteRE) (bs ++ [b]) (.slice (some ⟨g5, 0, none⟩) (bs.length + 1) cp5) W9) := by show OwnRe _ _ _ _ _; rw [HNX.out]; exact hW9
      clear hW9 hb1 hown9 hg9 hat9 hW hW3 hb3
      go_wp2
      go_roundw
      case rel => exact ⟨k + 1, _, by omega, by go_num, HW9.out⟩
      case measure => simp [intOf]; omega
    · obtain rfl : k = l.length := by omega
      rw [List.take_length] at hW
      obtain ⟨kp1, cap1, rfl, hrow, _⟩ := hW.row
      rw [List.length_map]
      have hlo : ListO wr kp1 (l.map fun b => some (RE.byteRE b)) := by
        rcases hrow with h0 | ⟨kb, ko, hkp, hrw⟩
        · left
          have := hW.are.1
          rw [h0] at this
          have : l = [] := List.length_eq_zero_iff.1 (by simp at this; omega)
          simp [this]
        · right
          refine ⟨kb, ko, hkp, fun i hi => ⟨_, hrw i (by rw [hW.are.1]; simpa using hi), ?_⟩⟩
          have hi' : i < l.length := by simpa using hi
          have h3 := hW.are.is.2 i (by simpa using hi)
          have e1 : (l.map fun b => some (RE.byteRE b)).getD i none = some ((l.map RE.byteRE).getD i RE.nothing) := by simp [List.getD, hi']
          rw [e1]
          exact ⟨_, rfl, h3⟩
      have hTh := Then_noeps kp1 cap1 (l.map fun b => some (RE.byteRE b)) wr hlo (fun r hr h3 => by
        obtain ⟨b, _, hb⟩ := List.mem_map.1 hr
        have hb : RE.byteRE b = r := by simpa using hb
        have := RE.one_op (BS.ofL [(b.toNat : Int)])
        rw [← hb] at h3
        unfold RE.byteRE at h3
        omega) (fun r hr => by
        rw [flat_word] at hr
        obtain ⟨b, _, hb⟩ := List.mem_map.1 hr
        have := RE.one_op (BS.ofL [(b.toNat : Int)])
        rw [← hb]
        unfold RE.byteRE
        omega) (by rw [flat_word, sizes_word]; exact hl) (by simpa using hl)
      rw [List.length_map] at hTh
      have HTH := Lib.hid hTh
      have HBEL := Lib.hid hW.bel
      clear hTh hlo hrow hW
      go_wp2_with fail
      refine HTH.out.mono ?_
      rintro e w2 ⟨b, rfl, h1, h2⟩
      go_wp2_with fail
      go_ret
      exact ⟨b, rfl, h1, ext_step HBW.out (HBEL.out.trans (h2.mono HBEL.out.size))⟩
end Go.Proofs.YticpjjmacmmpjaaGreatDoor
