/-
  Lists of expressions put in order, each once, in their row, walked through the program.
-/
import Derived.Test.YticpjjmacmmpjaaGreatDoorReU
set_option linter.unusedSimpArgs false
set_option linter.unusedVariables false
set_option maxRecDepth 100000
set_option linter.unnecessarySimpa false
namespace Go.Proofs.YticpjjmacmmpjaaGreatDoor
open Go.RowKit Go.Sort Go.Lib

def treeQ : QE → RE | none => RE.nothing | some q => q.2
def blkQ : QE → Nat | none => 0 | some q => q.1
theorem IsReX.inRowN {α : Type} [Inhabited α] {w : World} {blk off : Nat} {b : Nat} {r : RE} (h : IsReX (· = blk) w b r) (enc : α → Value) (m n : Nat) (d : Array α) : IsReX (· = blk) ((putRow enc (Sort.ahead w m) blk off d).drewN n) b r := by
  rw [show (putRow enc (Sort.ahead w m) blk off d).drewN n = putRow enc (Sort.ahead w (m + n)) blk off d from putRow_drewN _ _ _ _ _ _ _]
  exact h.inRow enc _ d
/-- the one at a place isn't the same as the one ahead -/
def keepQ (d : Array QE) (j : Nat) : Bool := if j = 0 then true else !decide ((treeQ d[j]!).key = (treeQ d[j - 1]!).key)
set_option maxRecDepth 1000000 in
set_option maxHeartbeats 4000000 in
theorem CompactFunc_any (blk off cap : Nat) (d : Array QE) (w : World) (hQ : RowQ w blk off d) (hcap : d.size ≤ cap) (hsz : d.size ≤ 1099511627776) :
    Calls Tryz.prog 168 #[.slice (some ⟨blk, off, none⟩) d.size cap, .func (.func 21) #[] #[]] w (DelPost (keptUpTo (keepQ d) d d.size) blk off cap d w) := by
  obtain ⟨bs, ls, hbs, hls, hd, hptr, hare⟩ := hQ.ptrs
  have hH := hQ.1
  obtain ⟨kp, HK⟩ : ∃ kp : Nat → Bool, Hid (kp = keepQ d) := ⟨_, rfl⟩
  have HKP : Hid (∀ j, 0 < j → j < d.size → kp j = !sameB (some (ls.getD j RE.nothing)) (some (ls.getD (j - 1) RE.nothing))) := fun j h0 hj => by
    rw [HK.out, keepQ, if_neg (by omega), hd j hj, hd (j - 1) (by omega)]; rfl
  have HK0 : Hid (kp 0 = true) := by rw [HK.out]; rfl
  rw [← HK.out]
  have HD := Lib.hid hd
  have HH : Hid (Holds encQ w blk off d) := hH
  have HA := Lib.hid hare
  have HS : Hid (∀ (dk : Array QE) (n j k : Nat), j < d.size → k < d.size → Calls Tryz.prog 21 #[ptr (bs.getD j 0), ptr (bs.getD k 0)] ((putRow encQ (Sort.ahead w 0) blk off dk).drewN n) fun e w' => e = .returned (.bool (sameB (some (ls.getD j RE.nothing)) (some (ls.getD k RE.nothing)))) ∧ w' = (putRow encQ (Sort.ahead w 0) blk off dk).drewN n) := fun dk n j k hj hk =>
    Same_any _ _ _ _ _ ⟨_, rfl, ((HA.out.2 j (by omega)).inRowN encQ 0 n dk).is⟩ ⟨_, rfl, ((HA.out.2 k (by omega)).inRowN encQ 0 n dk).is⟩
  have undPtr := Tryz.underlying113
  have eg : ∀ args w, (callFunc 21 args).run Tryz.prog w = .ok (.enter 21 args) w := enters_of Tryz.func21 (by kernel_rfl) rfl
  have HE : Hid (∀ W, W = putRow encQ (Sort.ahead w 0) blk off d → True) := fun _ _ => trivial
  have hall : (∀ j, j < d.size → kp j = true) → ∀ n, DelPost (keptUpTo kp d d.size) blk off cap d w (.returned (.slice (some ⟨blk, off, none⟩) d.size cap)) (w.drewN n) := fun hkeep n => by
    have e3 : keptUpTo kp d d.size = d.toList := by rw [keptUpTo_all kp d _ hkeep, range_map_get]
    rw [e3]
    refine ⟨by simp, n, ?_⟩
    simp only [Array.length_toList, Nat.sub_self, List.replicate_zero, List.append_nil, Array.toArray_toList]
    exact (putRow_self encQ (Sort.ahead w n) blk off d (holds_ahead encQ w n blk off d HH.out)).symm
  have HALL := Lib.hid hall
  clear hall hQ hd hH hptr hare HK HE
  by_cases h2 : d.size < 2
  · have HR := Lib.hid (HALL.out (fun j hj => by
      obtain rfl : j = 0 := by omega
      exact HK0.out) 0)
    go_enter Tryz.func168, Tryz.ntmps168
    go_wp2_with fail
    go_ret
    exact HR.out
  · go_enter Tryz.func168, Tryz.ntmps168
    go_wp2_with fail
    go_loopg [5] d.size (fun g s3 wr => ∃ k q : Nat, 1 ≤ k ∧ k ≤ d.size ∧ d.size - k ≤ g ∧ s3 = .int .i64 k ∧ Hid (wr = w.drewN q) ∧ Hid (∀ j, j < k → kp j = true))
    case atStart => exact ⟨1, 0, Nat.le_refl _, by omega, by omega, rfl, (rfl : _ = _), fun j hj => by
      obtain rfl : j = 0 := by omega
      exact HK0.out⟩
    case round =>
      obtain ⟨k, q, hk1, hk, hg, rfl, WQ, A⟩ := hrel
      by_cases hlt : k < d.size
      · have hw0 : wr = (putRow encQ (Sort.ahead w q) blk off d).drewN 0 := by rw [putRow_self encQ (Sort.ahead w q) blk off d (holds_ahead encQ w q blk off d HH.out), WQ.out]; rfl
        have hHr : Holds encQ wr blk off d := by rw [WQ.out]; exact HH.out
        obtain ⟨c1, f1⟩ := hHr k hlt
        obtain ⟨c0, f0⟩ := hHr (k - 1) (by omega)
        rw [HD.out k hlt] at c1
        rw [HD.out (k - 1) (by omega)] at c0
        change wr.cell? ⟨blk, off + k, none⟩ = some (.pointer (some ⟨bs.getD k 0, 0, none⟩)) at c1
        change wr.cell? ⟨blk, off + (k - 1), none⟩ = some (.pointer (some ⟨bs.getD (k - 1) 0, 0, none⟩)) at c0
        have hs : ∀ n, Calls Tryz.prog 21 #[ptr (bs.getD k 0), ptr (bs.getD (k - 1) 0)] (wr.drewN n) fun e w' => e = .returned (.bool (sameB (some (ls.getD k RE.nothing)) (some (ls.getD (k - 1) RE.nothing)))) ∧ w' = wr.drewN n := fun n => by
          have hn : wr.drewN n = (putRow encQ (Sort.ahead w 0) blk off d).drewN (q + n) := by
            have e1 : (putRow encQ (Sort.ahead w q) blk off d).drewN 0 = putRow encQ (Sort.ahead w q) blk off d := rfl
            rw [hw0, e1, putRow_drewN, putRow_drewN, Nat.zero_add]
          rw [hn]; exact HS.out d (q + n) k (k - 1) hlt (by omega)
        have HKK := Lib.hid (HKP.out k (by omega) hlt)
        generalize hb : bs.getD k 0 = b at *
        generalize hb' : bs.getD (k - 1) 0 = b' at *
        clear hb hb'
        generalize sameB (some (ls.getD k RE.nothing)) (some (ls.getD (k - 1) RE.nothing)) = sm at *
        have HSM := Lib.hid hs
        clear hs hw0 f1 f0 hHr
        cases sm with
        | true =>
          go_wp2_with fail
          go_quiet ((go_at_call 21; exact Calls.quiet_of_same (HSM.out _)))
          go_wp2_with fail
          have HST : Hid (KeptInv kp d (k + 1) k d) := KeptInv.start A.out HKK.out
          have HW1 : Hid (wr.drewN nq = putRow encQ (Sort.ahead w (q + nq)) blk off d) := by
            show _ = _
            rw [putRow_self encQ (Sort.ahead w (q + nq)) blk off d (holds_ahead encQ w (q + nq) blk off d HH.out), WQ.out]; simp [World.drewN, Sort.ahead, Nat.add_assoc]
          generalize wr.drewN nq = W1 at *
          clear c0 c1
          go_loopg [5, 7] d.size (fun g s3 s5 wr => ∃ (kk k2 q2 : Nat) (dk : Array QE), s3 = .int .i64 kk ∧ s5 = .int .i64 k2 ∧ 1 ≤ k2 ∧ k + k2 ≤ d.size ∧ d.size - (k + k2) ≤ g ∧ Hid (wr = putRow encQ (Sort.ahead w q2) blk off dk) ∧ Hid (KeptInv kp d (k + k2) kk dk))
          case atStart => exact ⟨k, 1, q + nq, d, rfl, rfl, Nat.le_refl _, by omega, by omega, HW1.out, HST.out⟩
          case round =>
            obtain ⟨kk, k2, q2, dk, rfl, rfl, h1, hle, hg2, W2, I2⟩ := hrel
            have hI := I2.out
            have hkk := hI.lt
            have hds := hI.size
            have hHk : Holds encQ wr blk off dk := by rw [W2.out]; exact holds_putRow encQ _ blk off d dk (holds_ahead encQ w q2 blk off d HH.out) hds
            by_cases hlt2 : k + k2 < d.size
            · obtain ⟨cm, _⟩ := hHk (k + k2) (by omega)
              obtain ⟨cp, _⟩ := hHk (k + k2 - 1) (by omega)
              obtain ⟨ck, fk⟩ := hHk kk (by omega)
              rw [hI.high (k + k2) (by omega), HD.out (k + k2) hlt2, show off + (k + k2) = off + k + k2 by omega] at cm
              rw [hI.high (k + k2 - 1) (by omega), HD.out (k + k2 - 1) (by omega), show off + (k + k2 - 1) = off + k + (k2 - 1) by omega] at cp
              change wr.cell? _ = some (.pointer (some ⟨bs.getD (k + k2) 0, 0, none⟩)) at cm
              change wr.cell? _ = some (.pointer (some ⟨bs.getD (k + k2 - 1) 0, 0, none⟩)) at cp
              have hs : ∀ n, Calls Tryz.prog 21 #[ptr (bs.getD (k + k2) 0), ptr (bs.getD (k + k2 - 1) 0)] (wr.drewN n) fun e w' => e = .returned (.bool (sameB (some (ls.getD (k + k2) RE.nothing)) (some (ls.getD (k + k2 - 1) RE.nothing)))) ∧ w' = wr.drewN n := fun n => by
                have hn : wr.drewN n = (putRow encQ (Sort.ahead w 0) blk off dk).drewN (q2 + n) := by rw [W2.out, putRow_drewN, putRow_drewN, Nat.zero_add]
                rw [hn]; exact HS.out dk (q2 + n) (k + k2) (k + k2 - 1) hlt2 (by omega)
              have HKK2 := Lib.hid (HKP.out (k + k2) (by omega) hlt2)
              have HDJ := Lib.hid (HD.out (k + k2) hlt2)
              generalize bs.getD (k + k2 - 1) 0 = b' at *
              generalize sameB (some (ls.getD (k + k2) RE.nothing)) (some (ls.getD (k + k2 - 1) RE.nothing)) = sm at *
              generalize bs.getD (k + k2) 0 = b at *
              generalize ls.getD (k + k2) RE.nothing = r at *
              generalize dk[kk]! = old at ck
              have HSM2 := Lib.hid hs
              clear hs hHk hI
              cases sm with
              | true =>
                go_wp2_with fail
                go_quiet ((go_at_call 21; exact Calls.quiet_of_same (HSM2.out _)))
                go_wp2_with fail
                go_roundg (d.size - (k + (k2 + 1)))
                case measure => omega
                case rel => exact ⟨kk, k2 + 1, q2 + nq, dk, rfl, by go_num, by omega, by omega, Nat.le_refl _, (by show _ = _; rw [W2.out, putRow_drewN]), I2.out.skip HKK2.out⟩
              | false =>
                go_wp2_with fail
                go_quiet ((go_at_call 21; exact Calls.quiet_of_same (HSM2.out _)))
                go_wp2_with fail
                go_roundg (d.size - (k + (k2 + 1)))
                case measure => omega
                case rel =>
                  refine ⟨kk + 1, k2 + 1, q2 + nq, dk.setIfInBounds kk (some (b, r)), by go_num, by go_num, by omega, by omega, Nat.le_refl _, (show Hid _ from ?_), (show Hid _ from ?_)⟩
                  · show _ = _
                    rw [W2.out, putRow_drewN]; exact putRow_set encQ _ blk off dk kk (some (b, r)) (by omega)
                  · have := I2.out.keep hlt2 HKK2.out
                    rwa [HDJ.out] at this
            · have hend : k + k2 = d.size := by omega
              have hcl : ∀ ty, (Builtin.clear_ #[113] ty #[.slice (some ⟨blk, off + kk, none⟩) (d.size - kk) (cap - kk)]).run Tryz.prog wr = .ok (.tuple #[]) (wr.setCells blk (off + kk) (List.replicate (d.size - kk) (encQ none))) :=
                fun ty => Lib.run_clear_slice wr _ _ ty _ undPtr zeroPtr (encQ_one.cells none) (encQ_one none) blk (off + kk) _ _ (by omega) (fun t ht => by rw [show off + kk + t = off + (kk + t) by omega, (hHk (kk + t) (by omega)).1]; rfl) (fun t ht => by rw [show off + kk + t = off + (kk + t) by omega]; exact (hHk (kk + t) (by omega)).2)
              have HEND := Lib.hid hend
              clear hHk hI hend
              go_wp2
              go_ret
              have hI := I2.out
              rw [HEND.out] at hI
              refine ⟨by rw [hI.len]; rfl, q2, ?_⟩
              rw [hI.len, ← hI.done none, ← putRow_setCells encQ _ blk off _ dk kk (by simp; omega), ← W2.out, List.map_replicate]
        | false =>
          go_wp2_with fail
          go_quiet ((go_at_call 21; exact Calls.quiet_of_same (HSM.out _)))
          go_wp2_with fail
          go_roundg (d.size - (k + 1))
          case measure => omega
          case rel =>
            refine ⟨k + 1, q + nq, by omega, by omega, Nat.le_refl _, by go_num, ?_, fun j hj => ?_⟩
            · show _ = _
              rw [WQ.out]; simp [World.drewN, Nat.add_assoc]
            by_cases e : j = k
            · subst e
              exact HKK.out
            · exact A.out j (by omega)
      · obtain rfl : k = d.size := by omega
        have HR := Lib.hid (HALL.out A.out q)
        rw [← WQ.out] at HR
        go_wp2_with fail
        go_ret
        exact HR.out
/-- of a row of one's own: its pairs -/
theorem OwnRe.rowQ {w wr : World} {ls : List RE} {bs : List Nat} {v : Value} (h : OwnRe w ls bs v wr) (hne : ls ≠ []) : ∃ g cap, v = .slice (some ⟨g, 0, none⟩) ls.length cap ∧ ls.length ≤ cap ∧ g < wr.heap.size ∧ RowQ wr g 0 ((bs.zip ls).map some).toArray := by
  have hpos : 0 < ls.length := List.length_pos_iff.2 hne
  have hl := h.are.1
  rcases h.own.2 with ⟨_, h0⟩ | ⟨g, cap, cur, rfl, hgB, hgb, hnc, h4, h5, h6⟩
  · omega
  have ho := h.own
  refine ⟨g, cap, by rw [hl], by omega, (Array.getElem?_eq_some_iff.1 hgb).1, ?_, ?_⟩
  · intro j hj
    have hj' : j < bs.length := by simp at hj; omega
    have hj2 : j < ls.length := by omega
    rw [Nat.zero_add]
    refine ⟨?_, frozen_of_row _ _ _ _ _ hgb⟩
    rw [ho.cellAt j (by omega)]
    have e : (((bs.zip ls).map some).toArray)[j]! = some (bs[j], ls[j]) := by
      rw [getElem!_pos _ j (by simp; omega)]; simp
    rw [e]
    simp [hj', encQ]
  · intro x hx
    have hx' : x ∈ (bs.zip ls).map some := by simpa using hx
    obtain ⟨q, hq, rfl⟩ := List.mem_map.1 hx'
    obtain ⟨j, hj, rfl⟩ := List.mem_iff_getElem.1 hq
    have hj1 : j < bs.length := by simp at hj; omega
    have hj2 : j < ls.length := by omega
    have := h.are.2 j hj2
    refine ⟨_, rfl, ?_⟩
    simp only [List.getElem_zip]
    have h3 : IsReX (fun k => (Value.slice (some ⟨g, 0, none⟩) bs.length cap).ownBlock = some k) wr bs[j] ls[j] := by simpa [List.getD, hj1, hj2] using this
    exact h3.mono fun k _ e => by subst e; rfl
/-- .. rewritten: what stands in it now is one's own again -/
theorem OwnRe.again {w wr W : World} {ls : List RE} {bs : List Nat} {g n cap : Nat} (h : OwnRe w ls bs (.slice (some ⟨g, 0, none⟩) n cap) wr) (L : List QE) (hL : ∀ x ∈ L, ∃ q, x = some q ∧ IsReX (· = g) wr q.1 q.2) (hn : L.length ≤ cap) {cur : Array Value} (hW : W.heap[g]? = some (.cells cur 37 (0, 0))) (hc : cur.size = cap) (ht : cur.toList.take L.length = L.map encQ) (hg : wr.grownBy W (some g)) :
    OwnRe w (L.map treeQ) (L.map blkQ) (.slice (some ⟨g, 0, none⟩) L.length cap) W := by
  have hq : ∀ x ∈ L, encQ x = ptr (blkQ x) := fun x hx => by
    obtain ⟨q, rfl, _⟩ := hL x hx; rfl
  rcases h.own.2 with ⟨h1, _⟩ | ⟨g', cap', cur', e1, hgB, hgb, hnc, h4, h5, h6⟩
  · cases h1
  · cases e1
    refine ⟨⟨by simp, .inr ⟨g, cap, cur, by simp, hgB, hW, by simpa using hn, h4, by simpa using hc, ?_⟩⟩, ⟨by simp, ?_⟩, h.bel.grown hg h.bel.size (fun k e => by cases e; exact hgB)⟩
    · rw [List.length_map, Nat.mul_one, ht, List.map_map]
      exact List.map_congr_left hq
    · intro i hi
      have hi' : i < L.length := by simpa using hi
      obtain ⟨q, hq1, hq2⟩ := hL L[i] (List.getElem_mem hi')
      have e1 : (L.map blkQ).getD i 0 = q.1 := by simp [List.getD, hi', hq1, blkQ]
      have e2 : (L.map treeQ).getD i RE.nothing = q.2 := by simp [List.getD, hi', hq1, treeQ]
      rw [e1, e2]
      refine (hq2.keep fun k hk hx => hg.block k hk (fun e => hx (by cases e; rfl))).mono fun k _ e => ?_
      have : g = k := by simpa [Value.ownBlock] using e
      exact this.symm
theorem putRow_at {α : Type} [Inhabited α] (enc : α → Value) (w : World) (n blk : Nat) (d : Array α) {cur : Array Value} {e : TypeId} {fr : Nat × Nat} (h : w.heap[blk]? = some (.cells cur e fr)) : (putRow enc (Sort.ahead w n) blk 0 d).heap[blk]? = some (.cells (putCells enc 0 d cur) e fr) := by
  show (w.heap.modify blk _)[blk]? = _
  rw [Array.getElem?_modify, if_pos rfl, h]; rfl
theorem putCells_take {α : Type} [Inhabited α] (enc : α → Value) (d : Array α) (cur : Array Value) (k : Nat) (hk : k ≤ d.size) (hd : d.size ≤ cur.size) : (putCells enc 0 d cur).toList.take k = (d.toList.take k).map enc := by
  apply List.ext_getElem
  · simp [putCells]; omega
  · intro i h1 h2
    have hi : i < k := by simp at h2; omega
    have hid : i < d.size := by omega
    simp [putCells, hid]
theorem grownBy_putRow {α : Type} [Inhabited α] (enc : α → Value) (w : World) (n blk off : Nat) (d : Array α) : w.grownBy (putRow enc (Sort.ahead w n) blk off d) (some blk) :=
  ⟨rfl, rfl, rfl, by rw [size_putRow]; exact Nat.le_refl _, fun k _ hk => putRow_block enc w n blk off d k (fun e => hk (by rw [e]))⟩
/-- what DeleteFunc, CompactFunc leave -/
theorem OwnRe.left {w wr W : World} {ls : List RE} {bs : List Nat} {g cap : Nat} {e : Ending} {L : List QE} (h : OwnRe w ls bs (.slice (some ⟨g, 0, none⟩) ls.length cap) wr) (hne : ls ≠ []) (hL : ∀ x ∈ L, x ∈ (bs.zip ls).map some) (hLn : L.length ≤ ls.length)
   (hp : DelPost L g 0 cap ((bs.zip ls).map some).toArray wr e W) : e = .returned (.slice (some ⟨g, 0, none⟩) L.length cap) ∧ OwnRe w (L.map treeQ) (L.map blkQ) (.slice (some ⟨g, 0, none⟩) L.length cap) W := by
  obtain ⟨he, q, hW⟩ := hp
  refine ⟨he, ?_⟩
  obtain ⟨g', cap', e1, hcap, hglt, hQ⟩ := h.rowQ hne
  cases e1
  have hl := h.are.1
  have hsz : ((bs.zip ls).map some).toArray.size = ls.length := by simp; omega
  rw [hsz] at hW
  rcases h.own.2 with ⟨h1, _⟩ | ⟨g', cap', cur', e1, hgB, hgb, hnc, h4, h5, h6⟩
  · cases h1
  · simp only [Value.slice.injEq, Option.some.injEq, Addr.mk.injEq] at e1
    obtain ⟨⟨rfl, _, _⟩, e2, rfl⟩ := e1
    have hD : (L ++ List.replicate (ls.length - L.length) none : List QE).toArray.size = ls.length := by simp; omega
    refine h.again L (fun x hx => hQ.2 x (by simpa using hL x hx)) (by omega) (cur := putCells encQ 0 (L ++ List.replicate (ls.length - L.length) none : List QE).toArray cur') (by rw [hW]; exact putRow_at encQ wr q g _ hgb) (by simp [putCells]; omega) ?_ (by rw [hW]; exact grownBy_putRow encQ wr q g 0 _)
    rw [putCells_take _ _ _ _ (by rw [hD]; exact hLn) (by rw [hD]; omega)]
    simp
end Go.Proofs.YticpjjmacmmpjaaGreatDoor
