/-
  Expressions of an op joined, walked through the program: the sets of those of one byte made one, all in order, each once. 'Word', walked through the program: the expression of one text. What makes expressions of expressions, walked through the program: of one of them, of all of them, one behind the other, as often as one likes, of one and not of another one.
-/
import Derived.Lib.ConvBytes
import Derived.Test.YtgamknphlmcgnaaGreatDoorZlA
import Derived.Test.YtgamknphlmcgnaaGreatDoorZlB
import Derived.Test.YtgamknphlmcgnaaGreatDoorZlC
import Derived.Test.YtgamknphlmcgnaaGreatDoorZlD
section
set_option linter.unusedSimpArgs false
set_option linter.unusedVariables false
set_option maxRecDepth 100000
set_option linter.unnecessarySimpa false
namespace Go.Proofs.YtgamknphlmcgnaaGreatDoor
open Go.RowKit Go.Sort Go.Lib
def treeQ : QE → RE | none => RE.nothing | some q => q.2
def blkQ : QE → Nat | none => 0 | some q => q.1
theorem IsReX.inRowN {α : Type} [Inhabited α] {w : World} {blk off : Nat} {b : Nat} {r : RE} (h : IsReX (· = blk) w b r) (enc : α → Value) (m n : Nat) (d : Array α) : IsReX (· = blk) ((putRow enc (Sort.ahead w m) blk off d).drewN n) b r := by
  rw [show (putRow enc (Sort.ahead w m) blk off d).drewN n = putRow enc (Sort.ahead w (m + n)) blk off d from putRow_drewN _ _ _ _ _ _ _]
  exact h.inRow enc _ d
/-- the one at a place isn't the same as the one ahead -/
def keepQ (d : Array QE) (j : Nat) : Bool := if j = 0 then true else !decide ((treeQ d[j]!).key = (treeQ d[j - 1]!).key)
set_option maxRecDepth 1000000 in
set_option maxHeartbeats 4000000 in
theorem CompactFunc_any (blk off cap : Nat) (d : Array QE) (w : World) (hQ : RowQ w blk off d) (hcap : d.size ≤ cap) (hsz : d.size ≤ 1099511627776) :
    Calls Tryz.prog 193 #[.slice (some ⟨blk, off, none⟩) d.size cap, .func (.func 26) #[] #[]] w (DelPost (keptUpTo (keepQ d) d d.size) blk off cap d w) := by
  obtain ⟨bs, ls, hbs, hls, hd, hptr, hare⟩ := hQ.ptrs
  have hH := hQ.1
  obtain ⟨kp, HK⟩ : ∃ kp : Nat → Bool, Hid (kp = keepQ d) := ⟨_, rfl⟩
  have HKP : Hid (∀ j, 0 < j → j < d.size → kp j = !sameB (some (ls.getD j RE.nothing)) (some (ls.getD (j - 1) RE.nothing))) := fun j h0 hj => by
    rw [HK.out, keepQ, if_neg (by omega), hd j hj, hd (j - 1) (by omega)]; rfl
  have HK0 : Hid (kp 0 = true) := by rw [HK.out]; rfl
  rw [← HK.out]
  have HD := Lib.hid hd
  have HH : Hid (Holds encQ w blk off d) := hH
  have HA := Lib.hid hare
  have HS : Hid (∀ (dk : Array QE) (n j k : Nat), j < d.size → k < d.size → Calls Tryz.prog 26 #[ptr (bs.getD j 0), ptr (bs.getD k 0)] ((putRow encQ (Sort.ahead w 0) blk off dk).drewN n) fun e w' => e = .returned (.bool (sameB (some (ls.getD j RE.nothing)) (some (ls.getD k RE.nothing)))) ∧ w' = (putRow encQ (Sort.ahead w 0) blk off dk).drewN n) := fun dk n j k hj hk =>
    Same_any _ _ _ _ _ ⟨_, rfl, ((HA.out.2 j (by omega)).inRowN encQ 0 n dk).is⟩ ⟨_, rfl, ((HA.out.2 k (by omega)).inRowN encQ 0 n dk).is⟩
  have undPtr := Tryz.underlying113
  have eg : ∀ args w, (callFunc 26 args).run Tryz.prog w = .ok (.enter 26 args) w := enters_of Tryz.func26 (by kernel_rfl) rfl
  have HE : Hid (∀ W, W = putRow encQ (Sort.ahead w 0) blk off d → True) := fun _ _ => trivial
  have hall : (∀ j, j < d.size → kp j = true) → ∀ n, DelPost (keptUpTo kp d d.size) blk off cap d w (.returned (.slice (some ⟨blk, off, none⟩) d.size cap)) (w.drewN n) := fun hkeep n => by
    have e3 : keptUpTo kp d d.size = d.toList := by rw [keptUpTo_all kp d _ hkeep, range_map_get]
    rw [e3]
    refine ⟨by simp, n, ?_⟩
    simp only [Array.length_toList, Nat.sub_self, List.replicate_zero, List.append_nil, Array.toArray_toList]
    exact (putRow_self encQ (Sort.ahead w n) blk off d (holds_ahead encQ w n blk off d HH.out)).symm
  have HALL := Lib.hid hall
  clear hall hQ hd hH hptr hare HK HE
  by_cases h2 : d.size < 2
  · have HR := Lib.hid (HALL.out (fun j hj => by
      obtain rfl : j = 0 := by omega
      exact HK0.out) 0)
    go_enter Tryz.func193, Tryz.ntmps193
    go_wp2_with fail
    go_ret
    exact HR.out
  · go_enter Tryz.func193, Tryz.ntmps193
    go_wp2_with fail
    go_loopg [5] d.size (fun g s3 wr => ∃ k q : Nat, 1 ≤ k ∧ k ≤ d.size ∧ d.size - k ≤ g ∧ s3 = .int .i64 k ∧ Hid (wr = w.drewN q) ∧ Hid (∀ j, j < k → kp j = true))
    case atStart => exact ⟨1, 0, Nat.le_refl _, by omega, by omega, rfl, (rfl : _ = _), fun j hj => by
      obtain rfl : j = 0 := by omega
      exact HK0.out⟩
    case round =>
      obtain ⟨k, q, hk1, hk, hg, rfl, WQ, A⟩ := hrel
      by_cases hlt : k < d.size
      · have hw0 : wr = (putRow encQ (Sort.ahead w q) blk off d).drewN 0 := by rw [putRow_self encQ (Sort.ahead w q) blk off d (holds_ahead encQ w q blk off d HH.out), WQ.out]; rfl
        have hHr : Holds encQ wr blk off d := by rw [WQ.out]; exact HH.out
        obtain ⟨c1, f1⟩ := hHr k hlt
        obtain ⟨c0, f0⟩ := hHr (k - 1) (by omega)
        rw [HD.out k hlt] at c1
        rw [HD.out (k - 1) (by omega)] at c0
        change wr.cell? ⟨blk, off + k, none⟩ = some (.pointer (some ⟨bs.getD k 0, 0, none⟩)) at c1
        change wr.cell? ⟨blk, off + (k - 1), none⟩ = some (.pointer (some ⟨bs.getD (k - 1) 0, 0, none⟩)) at c0
        have hs : ∀ n, Calls Tryz.prog 26 #[ptr (bs.getD k 0), ptr (bs.getD (k - 1) 0)] (wr.drewN n) fun e w' => e = .returned (.bool (sameB (some (ls.getD k RE.nothing)) (some (ls.getD (k - 1) RE.nothing)))) ∧ w' = wr.drewN n := fun n => by
          have hn : wr.drewN n = (putRow encQ (Sort.ahead w 0) blk off d).drewN (q + n) := by
            have e1 : (putRow encQ (Sort.ahead w q) blk off d).drewN 0 = putRow encQ (Sort.ahead w q) blk off d := rfl
            rw [hw0, e1, putRow_drewN, putRow_drewN, Nat.zero_add]
          rw [hn]; exact HS.out d (q + n) k (k - 1) hlt (by omega)
        have HKK := Lib.hid (HKP.out k (by omega) hlt)
        generalize hb : bs.getD k 0 = b at *
        generalize hb' : bs.getD (k - 1) 0 = b' at *
        clear hb hb'
        generalize sameB (some (ls.getD k RE.nothing)) (some (ls.getD (k - 1) RE.nothing)) = sm at *
        have HSM := Lib.hid hs
        clear hs hw0 f1 f0 hHr
        cases sm with
        | true =>
          go_wp2_with fail
          go_quiet ((go_at_call 26; exact Calls.quiet_of_same (HSM.out _)))
          go_wp2_with fail
          have HST : Hid (KeptInv kp d (k + 1) k d) := KeptInv.start A.out HKK.out
          have HW1 : Hid (wr.drewN nq = putRow encQ (Sort.ahead w (q + nq)) blk off d) := by
            show _ = _
            rw [putRow_self encQ (Sort.ahead w (q + nq)) blk off d (holds_ahead encQ w (q + nq) blk off d HH.out), WQ.out]; simp [World.drewN, Sort.ahead, Nat.add_assoc]
          generalize wr.drewN nq = W1 at *
          clear c0 c1
          go_loopg [5, 7] d.size (fun g s3 s5 wr => ∃ (kk k2 q2 : Nat) (dk : Array QE), s3 = .int .i64 kk ∧ s5 = .int .i64 k2 ∧ 1 ≤ k2 ∧ k + k2 ≤ d.size ∧ d.size - (k + k2) ≤ g ∧ Hid (wr = putRow encQ (Sort.ahead w q2) blk off dk) ∧ Hid (KeptInv kp d (k + k2) kk dk))
          case atStart => exact ⟨k, 1, q + nq, d, rfl, rfl, Nat.le_refl _, by omega, by omega, HW1.out, HST.out⟩
          case round =>
            obtain ⟨kk, k2, q2, dk, rfl, rfl, h1, hle, hg2, W2, I2⟩ := hrel
            have hI := I2.out
            have hkk := hI.lt
            have hds := hI.size
            have hHk : Holds encQ wr blk off dk := by rw [W2.out]; exact holds_putRow encQ _ blk off d dk (holds_ahead encQ w q2 blk off d HH.out) hds
            by_cases hlt2 : k + k2 < d.size
            · obtain ⟨cm, _⟩ := hHk (k + k2) (by omega)
              obtain ⟨cp, _⟩ := hHk (k + k2 - 1) (by omega)
              obtain ⟨ck, fk⟩ := hHk kk (by omega)
              rw [hI.high (k + k2) (by omega), HD.out (k + k2) hlt2, show off + (k + k2) = off + k + k2 by omega] at cm
              rw [hI.high (k + k2 - 1) (by omega), HD.out (k + k2 - 1) (by omega), show off + (k + k2 - 1) = off + k + (k2 - 1) by omega] at cp
              change wr.cell? _ = some (.pointer (some ⟨bs.getD (k + k2) 0, 0, none⟩)) at cm
              change wr.cell? _ = some (.pointer (some ⟨bs.getD (k + k2 - 1) 0, 0, none⟩)) at cp
              have hs : ∀ n, Calls Tryz.prog 26 #[ptr (bs.getD (k + k2) 0), ptr (bs.getD (k + k2 - 1) 0)] (wr.drewN n) fun e w' => e = .returned (.bool (sameB (some (ls.getD (k + k2) RE.nothing)) (some (ls.getD (k + k2 - 1) RE.nothing)))) ∧ w' = wr.drewN n := fun n => by
                have hn : wr.drewN n = (putRow encQ (Sort.ahead w 0) blk off dk).drewN (q2 + n) := by rw [W2.out, putRow_drewN, putRow_drewN, Nat.zero_add]
                rw [hn]; exact HS.out dk (q2 + n) (k + k2) (k + k2 - 1) hlt2 (by omega)
              have HKK2 := Lib.hid (HKP.out (k + k2) (by omega) hlt2)
              have HDJ := Lib.hid (HD.out (k + k2) hlt2)
              generalize bs.getD (k + k2 - 1) 0 = b' at *
              generalize sameB (some (ls.getD (k + k2) RE.nothing)) (some (ls.getD (k + k2 - 1) RE.nothing)) = sm at *
              generalize bs.getD (k + k2) 0 = b at *
              generalize ls.getD (k + k2) RE.nothing = r at *
              generalize dk[kk]! = old at ck
              have HSM2 := Lib.hid hs
              clear hs hHk hI
              cases sm with
              | true =>
                go_wp2_with fail
                go_quiet ((go_at_call 26; exact Calls.quiet_of_same (HSM2.out _)))
                go_wp2_with fail
                go_roundg (d.size - (k + (k2 + 1)))
                case measure => omega
                case rel => exact ⟨kk, k2 + 1, q2 + nq, dk, rfl, by go_num, by omega, by omega, Nat.le_refl _, (by show _ = _; rw [W2.out, putRow_drewN]), I2.out.skip HKK2.out⟩
              | false =>
                go_wp2_with fail
                go_quiet ((go_at_call 26; exact Calls.quiet_of_same (HSM2.out _)))
                go_wp2_with fail
                go_roundg (d.size - (k + (k2 + 1)))
                case measure => omega
                case rel =>
                  refine ⟨kk + 1, k2 + 1, q2 + nq, dk.setIfInBounds kk (some (b, r)), by go_num, by go_num, by omega, by omega, Nat.le_refl _, (show Hid _ from ?_), (show Hid _ from ?_)⟩
                  · show _ = _
                    rw [W2.out, putRow_drewN]; exact putRow_set encQ _ blk off dk kk (some (b, r)) (by omega)
                  · have := I2.out.keep hlt2 HKK2.out
                    rwa [HDJ.out] at this
            · have hend : k + k2 = d.size := by omega
              have hcl : ∀ ty, (Builtin.clear_ #[113] ty #[.slice (some ⟨blk, off + kk, none⟩) (d.size - kk) (cap - kk)]).run Tryz.prog wr = .ok (.tuple #[]) (wr.setCells blk (off + kk) (List.replicate (d.size - kk) (encQ none))) :=
                fun ty => Lib.run_clear_slice wr _ _ ty _ undPtr zeroPtr (encQ_one.cells none) (encQ_one none) blk (off + kk) _ _ (by omega) (fun t ht => by rw [show off + kk + t = off + (kk + t) by omega, (hHk (kk + t) (by omega)).1]; rfl) (fun t ht => by rw [show off + kk + t = off + (kk + t) by omega]; exact (hHk (kk + t) (by omega)).2)
              have HEND := Lib.hid hend
              clear hHk hI hend
              go_wp2
              go_ret
              have hI := I2.out
              rw [HEND.out] at hI
              refine ⟨by rw [hI.len]; rfl, q2, ?_⟩
              rw [hI.len, ← hI.done none, ← putRow_setCells encQ _ blk off _ dk kk (by simp; omega), ← W2.out, List.map_replicate]
        | false =>
          go_wp2_with fail
          go_quiet ((go_at_call 26; exact Calls.quiet_of_same (HSM.out _)))
          go_wp2_with fail
          go_roundg (d.size - (k + 1))
          case measure => omega
          case rel =>
            refine ⟨k + 1, q + nq, by omega, by omega, Nat.le_refl _, by go_num, ?_, fun j hj => ?_⟩
            · show _ = _
              rw [WQ.out]; simp [World.drewN, Nat.add_assoc]
            by_cases e : j = k
            · subst e
              exact HKK.out
            · exact A.out j (by omega)
      · obtain rfl : k = d.size := by omega
        have HR := Lib.hid (HALL.out A.out q)
        rw [← WQ.out] at HR
        go_wp2_with fail
        go_ret
        exact HR.out
/-- of a row of one's own: its pairs -/
theorem OwnRe.rowQ {w wr : World} {ls : List RE} {bs : List Nat} {v : Value} (h : OwnRe w ls bs v wr) (hne : ls ≠ []) : ∃ g cap, v = .slice (some ⟨g, 0, none⟩) ls.length cap ∧ ls.length ≤ cap ∧ g < wr.heap.size ∧ RowQ wr g 0 ((bs.zip ls).map some).toArray := by
  have hpos : 0 < ls.length := List.length_pos_iff.2 hne
  have hl := h.are.1
  rcases h.own.2 with ⟨_, h0⟩ | ⟨g, cap, cur, rfl, hgB, hgb, hnc, h4, h5, h6⟩
  · omega
  have ho := h.own
  refine ⟨g, cap, by rw [hl], by omega, (Array.getElem?_eq_some_iff.1 hgb).1, ?_, ?_⟩
  · intro j hj
    have hj' : j < bs.length := by simp at hj; omega
    have hj2 : j < ls.length := by omega
    rw [Nat.zero_add]
    refine ⟨?_, frozen_of_row _ _ _ _ _ hgb⟩
    rw [ho.cellAt j (by omega)]
    have e : (((bs.zip ls).map some).toArray)[j]! = some (bs[j], ls[j]) := by
      rw [getElem!_pos _ j (by simp; omega)]; simp
    rw [e]
    simp [hj', encQ]
  · intro x hx
    have hx' : x ∈ (bs.zip ls).map some := by simpa using hx
    obtain ⟨q, hq, rfl⟩ := List.mem_map.1 hx'
    obtain ⟨j, hj, rfl⟩ := List.mem_iff_getElem.1 hq
    have hj1 : j < bs.length := by simp at hj; omega
    have hj2 : j < ls.length := by omega
    have := h.are.2 j hj2
    refine ⟨_, rfl, ?_⟩
    simp only [List.getElem_zip]
    have h3 : IsReX (fun k => (Value.slice (some ⟨g, 0, none⟩) bs.length cap).ownBlock = some k) wr bs[j] ls[j] := by simpa [List.getD, hj1, hj2] using this
    exact h3.mono fun k _ e => by subst e; rfl
/-- .. rewritten: what stands in it now is one's own again -/
theorem OwnRe.again {w wr W : World} {ls : List RE} {bs : List Nat} {g n cap : Nat} (h : OwnRe w ls bs (.slice (some ⟨g, 0, none⟩) n cap) wr) (L : List QE) (hL : ∀ x ∈ L, ∃ q, x = some q ∧ IsReX (· = g) wr q.1 q.2) (hn : L.length ≤ cap) {cur : Array Value} (hW : W.heap[g]? = some (.cells cur 28 (0, 0))) (hc : cur.size = cap) (ht : cur.toList.take L.length = L.map encQ) (hg : wr.grownBy W (some g)) :
    OwnRe w (L.map treeQ) (L.map blkQ) (.slice (some ⟨g, 0, none⟩) L.length cap) W := by
  have hq : ∀ x ∈ L, encQ x = ptr (blkQ x) := fun x hx => by
    obtain ⟨q, rfl, _⟩ := hL x hx; rfl
  rcases h.own.2 with ⟨h1, _⟩ | ⟨g', cap', cur', e1, hgB, hgb, hnc, h4, h5, h6⟩
  · cases h1
  · cases e1
    refine ⟨⟨by simp, .inr ⟨g, cap, cur, by simp, hgB, hW, by simpa using hn, h4, by simpa using hc, ?_⟩⟩, ⟨by simp, ?_⟩, h.bel.grown hg h.bel.size (fun k e => by cases e; exact hgB)⟩
    · rw [List.length_map, Nat.mul_one, ht, List.map_map]
      exact List.map_congr_left hq
    · intro i hi
      have hi' : i < L.length := by simpa using hi
      obtain ⟨q, hq1, hq2⟩ := hL L[i] (List.getElem_mem hi')
      have e1 : (L.map blkQ).getD i 0 = q.1 := by simp [List.getD, hi', hq1, blkQ]
      have e2 : (L.map treeQ).getD i RE.nothing = q.2 := by simp [List.getD, hi', hq1, treeQ]
      rw [e1, e2]
      refine (hq2.keep fun k hk hx => hg.block k hk (fun e => hx (by cases e; rfl))).mono fun k _ e => ?_
      have : g = k := by simpa [Value.ownBlock] using e
      exact this.symm
theorem putRow_at {α : Type} [Inhabited α] (enc : α → Value) (w : World) (n blk : Nat) (d : Array α) {cur : Array Value} {e : TypeId} {fr : Nat × Nat} (h : w.heap[blk]? = some (.cells cur e fr)) : (putRow enc (Sort.ahead w n) blk 0 d).heap[blk]? = some (.cells (putCells enc 0 d cur) e fr) := by
  show (w.heap.modify blk _)[blk]? = _
  rw [Array.getElem?_modify, if_pos rfl, h]; rfl
theorem putCells_take {α : Type} [Inhabited α] (enc : α → Value) (d : Array α) (cur : Array Value) (k : Nat) (hk : k ≤ d.size) (hd : d.size ≤ cur.size) : (putCells enc 0 d cur).toList.take k = (d.toList.take k).map enc := by
  apply List.ext_getElem
  · simp [putCells]; omega
  · intro i h1 h2
    have hi : i < k := by simp at h2; omega
    have hid : i < d.size := by omega
    simp [putCells, hid]
theorem grownBy_putRow {α : Type} [Inhabited α] (enc : α → Value) (w : World) (n blk off : Nat) (d : Array α) : w.grownBy (putRow enc (Sort.ahead w n) blk off d) (some blk) :=
  ⟨rfl, rfl, rfl, by rw [size_putRow]; exact Nat.le_refl _, fun k _ hk => putRow_block enc w n blk off d k (fun e => hk (by rw [e]))⟩
/-- what DeleteFunc, CompactFunc leave -/
theorem OwnRe.left {w wr W : World} {ls : List RE} {bs : List Nat} {g cap : Nat} {e : Ending} {L : List QE} (h : OwnRe w ls bs (.slice (some ⟨g, 0, none⟩) ls.length cap) wr) (hne : ls ≠ []) (hL : ∀ x ∈ L, x ∈ (bs.zip ls).map some) (hLn : L.length ≤ ls.length)
   (hp : DelPost L g 0 cap ((bs.zip ls).map some).toArray wr e W) : e = .returned (.slice (some ⟨g, 0, none⟩) L.length cap) ∧ OwnRe w (L.map treeQ) (L.map blkQ) (.slice (some ⟨g, 0, none⟩) L.length cap) W := by
  obtain ⟨he, q, hW⟩ := hp
  refine ⟨he, ?_⟩
  obtain ⟨g', cap', e1, hcap, hglt, hQ⟩ := h.rowQ hne
  cases e1
  have hl := h.are.1
  have hsz : ((bs.zip ls).map some).toArray.size = ls.length := by simp; omega
  rw [hsz] at hW
  rcases h.own.2 with ⟨h1, _⟩ | ⟨g', cap', cur', e1, hgB, hgb, hnc, h4, h5, h6⟩
  · cases h1
  · simp only [Value.slice.injEq, Option.some.injEq, Addr.mk.injEq] at e1
    obtain ⟨⟨rfl, _, _⟩, e2, rfl⟩ := e1
    have hD : (L ++ List.replicate (ls.length - L.length) none : List QE).toArray.size = ls.length := by simp; omega
    refine h.again L (fun x hx => hQ.2 x (by simpa using hL x hx)) (by omega) (cur := putCells encQ 0 (L ++ List.replicate (ls.length - L.length) none : List QE).toArray cur') (by rw [hW]; exact putRow_at encQ wr q g _ hgb) (by simp [putCells]; omega) ?_ (by rw [hW]; exact grownBy_putRow encQ wr q g 0 _)
    rw [putCells_take _ _ _ _ (by rw [hD]; exact hLn) (by rw [hD]; omega)]
    simp
end Go.Proofs.YtgamknphlmcgnaaGreatDoor
namespace Go.Proofs.YtgamknphlmcgnaaGreatDoor
open Go.RowKit Go.Sort Go.Lib
theorem swo_cmpK : SWO (ltOf fun x y : List UInt8 => cmpK x y) := by
  have h : ∀ x y : List UInt8, ltOf (fun x y => cmpK x y) x y = Sort.ltStr x y := fun x y => by
    unfold ltOf cmpK ltStr
    by_cases h1 : x < y
    · simp [h1]
    · by_cases h2 : y < x <;> simp [h1, h2]
  exact ⟨fun x => by rw [h]; exact swo_ltStr.irrefl x, fun x y z => by rw [h, h, h]; exact swo_ltStr.trans x y z, fun x y z => by rw [h, h, h]; exact swo_ltStr.ntrans x y z⟩
/-- an expression of a row, as it may be sorted -/
abbrev SE (g : Nat) (w : World) := { q : Nat × RE // IsReX (· = g) w q.1 q.2 }
def encS {g : Nat} {w : World} (x : SE g w) : Value := ptr x.1.1
def cfS {g : Nat} {w : World} (x y : SE g w) : Int := cmpK x.1.2.key y.1.2.key
theorem swo_cfS {g : Nat} {w : World} : SWO (ltOf (cfS (g := g) (w := w))) :=
  ⟨fun x => swo_cmpK.irrefl x.1.2.key, fun x y z => swo_cmpK.trans x.1.2.key y.1.2.key z.1.2.key, fun x y z => swo_cmpK.ntrans x.1.2.key y.1.2.key z.1.2.key⟩
theorem ltOf_cfS {g : Nat} {w : World} (x y : SE g w) (h : ltOf cfS x y = false) : ¬ x.1.2.key < y.1.2.key := fun hl => by
  unfold ltOf cfS cmpK at h
  rw [if_pos hl] at h
  exact absurd h (by decide)
theorem cmpLaysS {g : Nat} {w : World} [Inhabited (SE g w)] (off size : Nat) : CmpLays1 Tryz.prog 191 #[] (encS (g := g) (w := w)) cfS g off size w := fun m os dk hs x y => by
  have hx : ∀ x : SE g w, IsRe (sortWorld encS w g off m dk os) x.1.1 x.1.2 := fun x => by
    refine (x.2.keep fun k hk hne => ?_).is
    show (grow (putRow encS (Sort.ahead w m) g off dk) os).heap[k]? = _
    unfold grow
    show ((putRow encS (Sort.ahead w m) g off dk).heap ++ os)[k]? = _
    rw [Array.getElem?_append_left (by rw [size_putRow]; exact hk)]
    exact putRow_block encS w m g off dk k hne
  refine (cmpRe_any x.1.1 y.1.1 x.1.2 y.1.2 _ (hx x) (hx y)).mono fun e w' h => ?_
  obtain ⟨he, n, hw⟩ := h
  exact ⟨he, n, #[], by rw [hw, grow_empty]⟩
set_option maxHeartbeats 1600000 in
theorem Sort_any (g cap : Nat) (bs : List Nat) (ls : List RE) (w wr : World) (h : OwnRe w ls bs (.slice (some ⟨g, 0, none⟩) ls.length cap) wr) (hne : ls ≠ []) (hsz : ls.length ≤ 1099511627776) :
    Calls Tryz.prog 190 #[.slice (some ⟨g, 0, none⟩) ls.length cap, .func (.func 191) #[] #[]] wr fun e w' => e = .returned (.tuple #[]) ∧ ∃ L : List (Nat × RE), L.Perm (bs.zip ls) ∧ (∀ i j, i < j → j < L.length → ¬ (L.getD j (0, RE.nothing)).2.key < (L.getD i (0, RE.nothing)).2.key) ∧ OwnRe w (L.map Prod.snd) (L.map Prod.fst) (.slice (some ⟨g, 0, none⟩) ls.length cap) w' := by
  obtain ⟨g', cap', e1, hcap, hg, hQ⟩ := h.rowQ hne
  simp only [Value.slice.injEq, Option.some.injEq, Addr.mk.injEq] at e1
  obtain ⟨⟨rfl, _, _⟩, e2, rfl⟩ := e1
  have hl := h.are.1
  have hps : ∀ q ∈ bs.zip ls, IsReX (· = g) wr q.1 q.2 := fun q hq => by
    obtain ⟨q', e, hx⟩ := hQ.2 (some q) (by simpa using hq)
    cases e; exact hx
  have hpos : 0 < (bs.zip ls).length := by have := List.length_pos_iff.2 hne; simp; omega
  generalize hps0 : bs.zip ls = ps at *
  have hplen : ps.length = ls.length := by rw [← hps0]; simp; omega
  haveI : Inhabited (SE g wr) := ⟨⟨ps[0], hps _ (List.getElem_mem hpos)⟩⟩
  obtain ⟨dS, hdS⟩ : ∃ dS : Array (SE g wr), dS.toList.map (·.1) = ps := ⟨(ps.attach.map fun q => ⟨q.1, hps q.1 q.2⟩).toArray, by
    simp only [List.map_map]
    exact List.attach_map_subtype_val ps⟩
  have hdn : dS.size = ls.length := by rw [← hplen, ← hdS]; simp
  have hdj : ∀ j, j < dS.size → encS dS[j]! = encQ ((ps.map some).toArray)[j]! := fun j hj => by
    have hj' : j < ps.length := by omega
    rw [getElem!_pos dS j hj, getElem!_pos _ j (by simpa using hj')]
    have : ps[j] = dS[j].1 := by simp [← hdS]
    simp [encQ, encS, this]
  have hH : Holds encS wr g 0 dS := fun j hj => by
    rw [hdj j hj]
    exact hQ.1 j (by simp; omega)
  have eg : ∀ args w, (callFunc 191 args).run Tryz.prog w = .ok (.enter 191 args) w := enters_of Tryz.func191 (by kernel_rfl) rfl
  have hs := Any.slices_SortFunc Tryz.laysSort encS (fun _ => rfl) cfS swo_cfS 191 #[] g 0 cap dS wr eg (cmpLaysS 0 dS.size) hH hg (by omega)
  rw [hdn] at hs
  change Calls Tryz.prog 190 _ _ _ at hs
  refine hs.mono fun e w' hh => ?_
  obtain ⟨he, d', n, os, hperm, hsorted, hw⟩ := hh
  rw [← hdn] at hperm hsorted
  have hd'n : d'.size = ls.length := by rw [← hdn]; exact hperm.1
  have hpl : d'.toList.Perm dS.toList := by
    have := hperm.2.2
    rwa [show d'.extract 0 dS.size = d' by rw [← hperm.1]; simp, show dS.extract 0 dS.size = dS by simp] at this
  refine ⟨he, d'.toList.map (·.1), ?_, ?_, ?_⟩
  · rw [← hdS]; exact hpl.map _
  · intro i j hij hj
    have hj' : j < d'.size := by simpa using hj
    have hi' : i < d'.size := by omega
    have := ltOf_cfS _ _ (hsorted i j (Nat.zero_le _) hij (by omega))
    rw [getElem!_pos d' j hj', getElem!_pos d' i hi'] at this
    simpa [List.getD, hj', hi'] using this
  · have e1 : (d'.toList.map (·.1)).map Prod.snd = (d'.toList.map fun x => some x.1).map treeQ := by rw [List.map_map, List.map_map]; rfl
    have e2 : (d'.toList.map (·.1)).map Prod.fst = (d'.toList.map fun x => some x.1).map blkQ := by rw [List.map_map, List.map_map]; rfl
    rw [e1, e2]
    have hlen : (d'.toList.map fun x => (some x.1 : QE)).length = ls.length := by simpa using hd'n
    rw [← hlen]
    rcases h.own.2 with ⟨h1, _⟩ | ⟨g', cap', cur', e3, hgB, hgb, hnc, h4, h5, h6⟩
    · cases h1
    · simp only [Value.slice.injEq, Option.some.injEq, Addr.mk.injEq] at e3
      obtain ⟨⟨rfl, _, _⟩, e4, rfl⟩ := e3
      refine h.again _ (fun x hx => ?_) (by rw [hlen]; omega) (cur := putCells encS 0 d' cur') ?_ (by simp [putCells]; omega) ?_ ?_
      · obtain ⟨y, hy, rfl⟩ := List.mem_map.1 hx
        exact ⟨y.1, rfl, y.2⟩
      · rw [hw]
        show ((putRow encS (Sort.ahead wr n) g 0 d').heap ++ os)[g]? = _
        rw [Array.getElem?_append_left (by rw [size_putRow]; exact hg)]
        exact putRow_at encS wr n g d' hgb
      · rw [putCells_take _ _ _ _ (by rw [hlen]; omega) (by omega), List.take_of_length_le (by simp), List.map_map]
        rfl
      · rw [hw]
        refine ⟨rfl, rfl, rfl, ?_, fun k hk hne => ?_⟩
        · show _ ≤ ((putRow encS (Sort.ahead wr n) g 0 d').heap ++ os).size
          rw [Array.size_append, size_putRow]; exact Nat.le_add_right wr.heap.size os.size
        · show ((putRow encS (Sort.ahead wr n) g 0 d').heap ++ os)[k]? = _
          rw [Array.getElem?_append_left (by rw [size_putRow]; exact hk)]
          exact putRow_block encS wr n g 0 d' k (fun e => hne (by rw [e]))
theorem CompactFunc_short (kp : Option Addr) (n cap : Nat) (hn : n < 2) (fv : Value) (w : World) :
    Calls Tryz.prog 193 #[.slice kp n cap, fv] w fun e w' => e = .returned (.slice kp n cap) ∧ w = w' := by
  go_enter Tryz.func193, Tryz.ntmps193
  go_wp2_with fail
  go_ret
  exact ⟨rfl, rfl⟩
theorem kept_map (n : Nat) (d : Array QE) (hn : d.size = n) (kp : Nat → Bool) : (keptUpTo kp d n).map treeQ = ((List.range n).filter kp).map fun j => treeQ d[j]! := by
  unfold keptUpTo
  rw [List.map_map]; rfl
def UniqPost (w : World) (ls : List RE) (e : Ending) (w' : World) : Prop := ∃ v bs, e = .returned v ∧ OwnRe w (RE.uniq ls) bs v w'
theorem unique_any (v : Value) (bs : List Nat) (ls : List RE) (w wr : World) (h : OwnRe w ls bs v wr) (hwf : ∀ r ∈ ls, RE.wf r) (hsz : ls.length ≤ 1099511627776) :
    Calls Tryz.prog 174 #[v] wr (UniqPost w ls) := by
  by_cases hne : ls = []
  · subst hne
    obtain ⟨kp, cap, rfl, hrow, _⟩ := h.row
    have HS := Lib.hid (fun fv W => AnyF.slices_SortFunc_none { Tryz.laysSort with } kp cap fv W)
    have HC := Lib.hid (CompactFunc_short kp 0 cap (by omega))
    have HE : Hid (UniqPost w [] (.returned (.slice kp 0 cap)) wr) := ⟨_, bs, rfl, by simpa [RE.uniq] using h⟩
    clear h hrow hwf
    go_enter Tryz.func174, Tryz.ntmps174
    go_wp2_with fail
    refine (HS.out _ _).mono ?_
    rintro e w' ⟨rfl, rfl⟩
    go_wp2_with fail
    refine (HC.out _ _).mono ?_
    rintro e w' ⟨rfl, rfl⟩
    go_wp2_with fail
    go_ret
    exact HE.out
  · obtain ⟨g, cap, rfl, hcap, hg, hQ⟩ := h.rowQ hne
    have HS := Lib.hid (Sort_any g cap bs ls w wr h hne hsz)
    have HWF := Lib.hid hwf
    have hl := h.are.1
    have HN := Lib.hid hne
    clear h hQ hwf hg
    go_enter Tryz.func174, Tryz.ntmps174
    go_wp2_with fail
    refine HS.out.mono ?_
    rintro e w1 ⟨rfl, L, hperm, hsorted, hO⟩
    have hLn : L.length = ls.length := by rw [hperm.length_eq]; simp; omega
    have hLne : L ≠ [] := fun e => HN.out (List.length_eq_zero_iff.1 (by rw [← hLn, e]; rfl))
    have hO2 : OwnRe w (L.map Prod.snd) (L.map Prod.fst) (.slice (some ⟨g, 0, none⟩) (L.map Prod.snd).length cap) w1 := by rw [List.length_map, hLn]; exact hO
    obtain ⟨g', cap', e1, _, hg1, hQ1⟩ := hO2.rowQ (by simpa using hLne)
    simp only [Value.slice.injEq, Option.some.injEq, Addr.mk.injEq] at e1
    obtain ⟨⟨rfl, _, _⟩, e2, rfl⟩ := e1
    have hzip : (L.map Prod.fst).zip (L.map Prod.snd) = L := by simp [List.zip_map']
    rw [hzip] at hQ1
    have hds : ((L.map some).toArray : Array QE).size = ls.length := by simpa using hLn
    have hcf := CompactFunc_any g 0 cap (L.map some).toArray w1 hQ1 (by omega) (by omega)
    rw [hds] at hcf
    have HCF := Lib.hid hcf
    have HO2 := Lib.hid hO2
    have HPM := Lib.hid hperm
    have HSD := Lib.hid hsorted
    clear hcf hO2 hO hperm hsorted hQ1 hg1
    go_wp2_with fail
    refine HCF.out.mono ?_
    intro e w2 hp
    have hwL : ∀ j, j < ls.length → RE.wf (treeQ ((L.map some).toArray : Array QE)[j]!) := fun j hj => by
      rw [getElem!_pos _ j (by rw [hds]; exact hj)]
      have h1 : L[j] ∈ bs.zip ls := HPM.out.mem_iff.1 (List.getElem_mem (by omega))
      have := HWF.out _ (List.of_mem_zip h1).2
      simpa [treeQ] using this
    have hdj : ∀ j, (hj : j < ls.length) → treeQ ((L.map some).toArray : Array QE)[j]! = (L.getD j (0, RE.nothing)).2 := fun j hj => by
      rw [getElem!_pos _ j (by rw [hds]; exact hj)]
      have : j < L.length := by omega
      simp [treeQ, List.getD, this]
    have hK := RE.uniq_kept ls.length (fun j => treeQ ((L.map some).toArray : Array QE)[j]!) (keepQ (L.map some).toArray) hwL (fun i j hij hj => by
      rw [hdj i (by omega), hdj j hj]; exact HSD.out i j hij (by omega)) rfl (fun j h0 hj => by unfold keepQ; rw [if_neg (by omega)])
    have hmap : (List.range ls.length).map (fun j => treeQ ((L.map some).toArray : Array QE)[j]!) = L.map Prod.snd := by
      apply List.ext_getElem
      · simp; omega
      · intro i h1 h2
        have hi : i < ls.length := by simpa using h1
        have hi2 : i < L.length := by omega
        simp only [List.getElem_map, List.getElem_range]
        rw [hdj i hi]; simp [List.getD, hi2]
    rw [hmap] at hK
    have hLw : ∀ x ∈ L.map Prod.snd, RE.wf x := fun x hx => by
      obtain ⟨q, hq, rfl⟩ := List.mem_map.1 hx
      exact HWF.out _ (List.of_mem_zip (HPM.out.mem_iff.1 hq)).2
    have hU : RE.uniq (L.map Prod.snd) = RE.uniq ls := by
      refine RE.uniq_of (RE.uniq_spec hLw).1 HWF.out fun r => ((RE.uniq_spec hLw).2 r).trans ?_
      have hz : (bs.zip ls).map Prod.snd = ls := List.map_snd_zip (by omega)
      have := (HPM.out.map Prod.snd).mem_iff (a := r)
      rwa [hz] at this
    have hfin := HO2.out.left (by simpa using hLne) (L := keptUpTo (keepQ (L.map some).toArray) (L.map some).toArray ls.length) (fun x hx => by
      rw [hzip]
      unfold keptUpTo at hx
      obtain ⟨j, hj, rfl⟩ := List.mem_map.1 hx
      have hj' : j < ls.length := by simpa using (List.mem_filter.1 hj).1
      rw [getElem!_pos _ j (by rw [hds]; exact hj')]
      simp) (by
      unfold keptUpTo
      rw [List.length_map, List.length_map, hLn]
      exact Nat.le_trans (List.length_filter_le _ _) (by simp)) (by rw [hzip]; simpa using hp)
    obtain ⟨rfl, hF⟩ := hfin
    rw [kept_map _ _ hds, hK, hU] at hF
    have HF := Lib.hid hF
    clear hF hK hp
    go_wp2_with fail
    go_ret
    exact ⟨_, _, rfl, HF.out⟩
end Go.Proofs.YtgamknphlmcgnaaGreatDoor
namespace Go.Proofs.YtgamknphlmcgnaaGreatDoor
open Go.RowKit Go.Sort Go.Lib
theorem OwnRe.base {w w1 wr : World} {ls : List RE} {bs : List Nat} {v : Value} (h : OwnRe w1 ls bs v wr) (hb : Below w.heap.size w w1) : OwnRe w ls bs v wr := by
  have hle := hb.size
  refine ⟨?_, h.are, hb.trans (h.bel.mono hle)⟩
  refine ⟨h.own.1, ?_⟩
  rcases h.own.2 with h0 | ⟨g, cap, cur, e, hgB, h1⟩
  · exact .inl h0
  · exact .inr ⟨g, cap, cur, e, Nat.le_trans hle hgB, h1⟩
/-- a set as a value -/
abbrev aggS (s : BS) : Value := .agg #[.int .u64 (wN s.a), .int .u64 (wN s.b), .int .u64 (wN s.c), .int .u64 (wN s.d)]
def OneAt (v7 v8 : Value) (wr : World) : Option RE → Prop
  | none => v8 = .pointer none
  | some r => ∃ b, v8 = ptr b ∧ IsReX (fun k => v7.ownBlock = some k) wr b r ∧ RE.wf r
def JoinAt (w : World) (f : BS → BS → BS) (F : List RE) (v7 v8 i : Value) (wr : World) : Prop :=
  ∃ (k : Nat) (bs : List Nat) (O : List RE) (x : Option RE), k ≤ F.length ∧ i = .int .i64 k ∧ OwnRe w O bs v7 wr ∧ OneAt v7 v8 wr x ∧ O.length ≤ k ∧ (∀ r ∈ O, RE.wf r) ∧ RE.joinGo f (F.drop k) O x = RE.joinGo f F [] none
def ListPost (w : World) (L : List RE) (e : Ending) (w' : World) : Prop := ∃ v bs, e = .returned v ∧ OwnRe w L bs v w'
theorem RE.one_wf (s : BS) : RE.wf (RE.one s) := by
  unfold RE.one
  split
  · simp [RE.nothing, RE.wf, RE.wfs]
  · simp [RE.wf, RE.wfs]
theorem OneAt.later {v7 v8 : Value} {wr wr' : World} {x : Option RE} (h : OneAt v7 v8 wr x) (hb : Below wr.heap.size wr wr') : OneAt v7 v8 wr' x := by
  cases x with
  | none => exact h
  | some r => obtain ⟨b, h1, h2, h3⟩ := h; exact ⟨b, h1, h2.keep (fun k hk _ => hb.block k hk), h3⟩
theorem OneAt.appended {v v8 : Value} {g n cp H : Nat} {Wa W' : World} {x : Option RE} (h : OneAt v v8 Wa x) (hg : Wa.grownBy W' v.ownBlock) (hat : v.ownBlock = some g ∨ g = H) (hH : Wa.heap.size ≤ H) : OneAt (.slice (some ⟨g, 0, none⟩) n cp) v8 W' x := by
  cases x with
  | none => exact h
  | some r =>
    obtain ⟨b, h1, h2, h3⟩ := h
    refine ⟨b, h1, ?_, h3⟩
    have h4 : IsReX (fun k => v.ownBlock = some k ∨ Wa.heap.size ≤ k) Wa b r := h2.mono fun k hk hy => by
      rcases hy with hy | hy
      · exact hy
      · omega
    refine (h4.keep (w' := W') fun k hk hx => hg.block k hk (fun e => hx (.inl e.symm))).mono fun k _ e => ?_
    have e : g = k := by simpa [Value.ownBlock] using e
    subst e
    rcases hat with e | e
    · exact .inl e
    · exact .inr (by omega)
set_option maxRecDepth 100000 in
set_option maxHeartbeats 4000000 in
theorem join_any (o g : Nat) (f : BS → BS → BS) (hf : ∀ (s t : BS) (W : World), Calls Tryz.prog g #[aggS s, aggS t] W fun e w' => e = .returned (aggS (f s t)) ∧ Below W.heap.size W w') (eg : ∀ args w, (callFunc g args).run Tryz.prog w = .ok (.enter g args) w)
   (kp : Option Addr) (cap : Nat) (l : List (Option RE)) (w : World) (hl : ListO w kp l) (hne : ∀ r, some r ∈ l → r.op = o → r.kids ≠ []) (hwf : ∀ r ∈ RE.flat o l, RE.wf r) (hsz : (RE.flat o l).length ≤ 1099511627775) (hln : l.length ≤ 1099511627776) :
    Calls Tryz.prog 152 #[.int .i64 o, .slice kp l.length cap, .func (.func g) #[] #[]] w (ListPost w (RE.joinL o f l)) := by
  have HF := Lib.hid (flat_any o kp cap l w hl hne (by omega) hln)
  have HWF := Lib.hid hwf
  have HG := Lib.hid hf
  have HJ : Hid (RE.joinL o f l = RE.joinGo f (RE.flat o l) [] none) := rfl
  obtain ⟨i0, hi, hz0, hz1, hz2⟩ := info_parts infoPtr
  have HI := Lib.hid hi; have HZ0 := Lib.hid hz0; have HZ1 := Lib.hid hz1; have HZ2 := Lib.hid hz2
  clear hl hne hwf hf hi hz0 hz1 hz2
  generalize RE.joinL o f l = R at *
  generalize hFF : RE.flat o l = F at *
  clear hFF
  go_enter Tryz.func152, Tryz.ntmps152
  go_wp2_with fail
  refine HF.out.mono ?_
  rintro e w1 ⟨v, bsF, rfl, hO⟩
  obtain ⟨kp1, cap1, rfl, hrow, _⟩ := hO.row
  have HBEL := Lib.hid hO.bel
  have HARE := Lib.hid hO.are.is
  have HROW := Lib.hid hrow
  clear hO hrow
  go_wp2_with fail
  go_loopw [7, 8, 15] (fun v7 v8 i wr => JoinAt w1 f F v7 v8 i wr) (fun _ _ i _ => F.length - (intOf i).toNat)
  case atStart => exact ⟨0, [], [], none, by omega, rfl, ⟨World.ownsRow_nil _ _ _ _, AreReX.nil, Below.refl _ _⟩, rfl, by simp, by simp, rfl⟩
  case round =>
    obtain ⟨k, bs, O, x, hk, rfl, hW, hx, hOk, hOw, hgo⟩ := hrel
    by_cases hlt : k < F.length
    · obtain ⟨hbl, hkids⟩ := HARE.out
      rcases HROW.out with h0 | ⟨kb, ko, rfl, hrw⟩
      · rw [h0] at hbl; simp at hbl; omega
      have hptr : w1.cell? ⟨kb, ko + k, none⟩ = some (.pointer (some ⟨bsF.getD k 0, 0, none⟩)) := hrw k (by omega)
      have hkbl := World.block_lt_of_cell? w1 _ hptr
      rw [← hW.bel.cell (p := ⟨kb, ko + k, none⟩) hkbl] at hptr
      have hb0 := hkids k hlt
      have hrwf := HWF.out (F.getD k RE.nothing) (by simp [List.getD, hlt])
      have hdrop : F.drop k = F.getD k RE.nothing :: F.drop (k + 1) := by rw [List.drop_eq_getElem_cons hlt]; simp [List.getD, hlt]
      rw [hdrop] at hgo
      have hb := hb0.later (Nat.le_refl _) hW.bel
      have hbX : IsReX (fun j => u7.ownBlock = some j) wr (bsF.getD k 0) (F.getD k RE.nothing) := (hb0.avoid (X := fun j => u7.ownBlock = some j) fun j hj e => by have := (hW.own.lt j e).1; omega).keep fun j hj _ => hW.bel.block j hj
      generalize F.getD k RE.nothing = r at *
      generalize bsF.getD k 0 = b at *
      obtain ⟨kp2, cap2, bs2, hnode, _, _⟩ := hb.open
      have hop : wr.cell? ⟨b, 0, none⟩ = some (.int .i64 (r.op : Nat)) := by rw [cell_of_row _ _ _ _ _ _ hnode]; rfl
      have hbO : bs.length ≤ 1099511627774 := by rw [hW.are.1]; omega
      by_cases hr2 : r.op = 2
      · rw [hr2] at hop
        cases x with
        | none =>
          have hv : u8 = .pointer none := hx
          subst hv
          have HGO : Hid (RE.joinGo f (F.drop (k + 1)) O (some r) = RE.joinGo f F [] none) := by
            show _ = _
            rw [← hgo]; simp [RE.joinGo, hr2]
          have HX : Hid (OneAt u7 (ptr b) wr (some r)) := ⟨b, rfl, hbX, hrwf⟩
          have HW := Lib.hid hW
          have HOW := Lib.hid hOw
          clear hnode hb hbX hb0 hkids hrw hgo hW hx hOw hrwf hdrop hbl
          go_wp2_with fail
          go_roundw
          case rel => exact ⟨k + 1, _, O, some r, by omega, by go_num, HW.out, HX.out, by omega, HOW.out, HGO.out⟩
          case measure => simp [intOf]; omega
        | some y =>
          obtain ⟨b1, hv, hyX, hyw⟩ := hx
          subst hv
          obtain ⟨kp3, cap3, bs3, hnode1, _, _⟩ := hyX.is.open
          have hop1 : wr.cell? ⟨b1, 0, none⟩ = some (.int .i64 (y.op : Nat)) := by rw [cell_of_row _ _ _ _ _ _ hnode1]; rfl
          have hcs : ∀ (j : Nat), j < 4 → wr.cell? ⟨b1, 1 + j, none⟩ = some (.int .u64 (wN (wordAt y.set j))) ∧ wr.cell? ⟨b, 1 + j, none⟩ = some (.int .u64 (wN (wordAt r.set j))) := fun j hj => by
            match j, hj with
            | 0, _ => exact ⟨by rw [cell_of_row _ _ _ _ _ _ hnode1]; rfl, by rw [cell_of_row _ _ _ _ _ _ hnode]; rfl⟩
            | 1, _ => exact ⟨by rw [cell_of_row _ _ _ _ _ _ hnode1]; rfl, by rw [cell_of_row _ _ _ _ _ _ hnode]; rfl⟩
            | 2, _ => exact ⟨by rw [cell_of_row _ _ _ _ _ _ hnode1]; rfl, by rw [cell_of_row _ _ _ _ _ _ hnode]; rfl⟩
            | 3, _ => exact ⟨by rw [cell_of_row _ _ _ _ _ _ hnode1]; rfl, by rw [cell_of_row _ _ _ _ _ _ hnode]; rfl⟩
          obtain ⟨ys, hys⟩ : ∃ s, y.set = s := ⟨_, rfl⟩
          obtain ⟨rs, hrs⟩ : ∃ s, r.set = s := ⟨_, rfl⟩
          rw [hys, hrs] at hcs
          have HGO0 : Hid ((RE.one (f ys rs)).op = 0 → O ++ [RE.one (f ys rs)] = RE.joinGo f F [] none) := fun h0 => by
            rw [← hgo]; simp [RE.joinGo, hr2, hys, hrs, h0]
          have HGO1 : Hid ((RE.one (f ys rs)).op ≠ 0 → RE.joinGo f (F.drop (k + 1)) O (some (RE.one (f ys rs))) = RE.joinGo f F [] none) := fun h0 => by
            rw [← hgo]; simp [RE.joinGo, hr2, hys, hrs, h0]
          obtain ⟨y0, y1, y2, y3⟩ := ys
          obtain ⟨r0, r1, r2, r3⟩ := rs
          obtain ⟨S, hS⟩ : ∃ S : World → Prop, ∀ W', S W' ↔ ((W'.cell? ⟨b1, 1, none⟩ = some (.int .u64 (wN y0)) ∧ W'.cell? ⟨b1, 1 + 1, none⟩ = some (.int .u64 (wN y1)) ∧ W'.cell? ⟨b1, 1 + 2, none⟩ = some (.int .u64 (wN y2)) ∧ W'.cell? ⟨b1, 1 + 3, none⟩ = some (.int .u64 (wN y3))) ∧
              (W'.cell? ⟨b, 1, none⟩ = some (.int .u64 (wN r0)) ∧ W'.cell? ⟨b, 1 + 1, none⟩ = some (.int .u64 (wN r1)) ∧ W'.cell? ⟨b, 1 + 2, none⟩ = some (.int .u64 (wN r2)) ∧ W'.cell? ⟨b, 1 + 3, none⟩ = some (.int .u64 (wN r3)))) := ⟨_, fun _ => Iff.rfl⟩
          have HS := Lib.hid hS
          clear hS
          have cs : ∀ p : InC S, (p.w.cell? ⟨b1, 1, none⟩ = some (.int .u64 (wN y0)) ∧ p.w.cell? ⟨b1, 1 + 1, none⟩ = some (.int .u64 (wN y1)) ∧ p.w.cell? ⟨b1, 1 + 2, none⟩ = some (.int .u64 (wN y2)) ∧ p.w.cell? ⟨b1, 1 + 3, none⟩ = some (.int .u64 (wN y3))) ∧
              (p.w.cell? ⟨b, 1, none⟩ = some (.int .u64 (wN r0)) ∧ p.w.cell? ⟨b, 1 + 1, none⟩ = some (.int .u64 (wN r1)) ∧ p.w.cell? ⟨b, 1 + 2, none⟩ = some (.int .u64 (wN r2)) ∧ p.w.cell? ⟨b, 1 + 3, none⟩ = some (.int .u64 (wN r3))) := fun p => (HS.out p.w).1 p.h
          have hS0 : S wr.drew := (HS.out _).2 ⟨⟨(hcs 0 (by omega)).1, (hcs 1 (by omega)).1, (hcs 2 (by omega)).1, (hcs 3 (by omega)).1⟩, ⟨(hcs 0 (by omega)).2, (hcs 1 (by omega)).2, (hcs 2 (by omega)).2, (hcs 3 (by omega)).2⟩⟩
          have hne : Nonempty (InC S) := ⟨⟨_, hS0⟩⟩
          have HW := Lib.hid hW
          have HOW := Lib.hid hOw
          have HCALL := Lib.hid (HG.out ⟨y0, y1, y2, y3⟩ ⟨r0, r1, r2, r3⟩)
          generalize f ⟨y0, y1, y2, y3⟩ ⟨r0, r1, r2, r3⟩ = fs at *
          obtain ⟨f0, f1, f2, f3⟩ := fs
          clear hnode hnode1 hb hbX hb0 hkids hrw hgo hW hyX hOw hrwf hdrop hbl hcs hys hrs
          go_wp2_with fail
          clear hop hop1 hptr
          refine wp_region_mix S [0, 1, 2, 3, 4, 5, 6, 7, 8] [0, 1, 2, 3, 4, 5, 6, 7, 8, 9, 10, 11] (by kernel_rfl) (by kernel_rfl) hS0 ?_
          (repeat (refine wpMix_read rfl rfl ?_; go_big_quiet_step (fail); refine wpQuiet_nil ?_))
          clear cs hne hS0
          refine wpMix_eff (k := false) rfl rfl (by kernel_rfl) ?_
          go_wp2_with fail
          refine (HCALL.out _).mono ?_
          rintro e w2 ⟨rfl, hb2⟩
          have hB2 : Below wr.heap.size wr w2 := by repeat (first | exact Below.refl _ _ | assumption | refine Below.drew ?_ | refine ext_drewN ?_ _ | refine ext_alloc ?_ _ | refine Below.setCell ?_ (by (try simp only [World.size_alloc, World.size_setCell, World.size_drew]); omega) _ | refine ext_step ?_ (by assumption))
          go_wp2_with fail
          refine mixPost_last ?_
          refine wpMix_eff (k := false) rfl rfl (by kernel_rfl) ?_
          go_wp2_with fail
          refine (One_any f0 f1 f2 f3 _).mono ?_
          rintro e w3 ⟨b2, rfl, hone, hb3⟩
          have hB3 := ext_step hB2 hb3
          have hoX : IsReX (fun j => u7.ownBlock = some j) w3 b2 (RE.one ⟨f0, f1, f2, f3⟩) := hone.mono fun j _ e => by have := (HW.out.own.lt j e).2; have := hB2.size; omega
          have howf := RE.one_wf ⟨f0, f1, f2, f3⟩
          have hW3 := HW.out.later hB3
          clear hone hb3 hb2 hB2
          generalize RE.one ⟨f0, f1, f2, f3⟩ = z at *
          obtain ⟨kp4, cap4, bs4, hnode2, _, _⟩ := hoX.is.open
          have hop2 : w3.cell? ⟨b2, 0, none⟩ = some (.int .i64 (z.op : Nat)) := by rw [cell_of_row _ _ _ _ _ _ hnode2]; rfl
          have HW3 := Lib.hid hW3
          have HOX := Lib.hid hoX
          have HZW := Lib.hid howf
          clear hnode2 hW3 hoX howf HW
          go_wp2_with fail
          refine mixPost_last ?_
          refine wpMix_eff (k := false) rfl rfl (by kernel_rfl) ?_
          go_wp2_with fail
          refine mixPost_last (wpMix_nil ?_)
          by_cases hz0 : z.op = 0
          · rw [hz0] at hop2
            have HL := Lib.hid (HGO0.out hz0)
            clear hz0
            go_wp2_with (at_builtin; refine wpList_append_lies _ rfl _ _ _ rfl w1.heap.size 28 i0 _ 1 8 Tryz.underlying113 HI.out HZ0.out HZ1.out HZ2.out rfl (by omega) u7 bs.length (bs.map ptr) rfl (HW3.out.own.alloc _) ⟨w3.heap.size, 0, none⟩ 1 1 [ptr b2] rfl rfl (World.news_of_block (cs := #[ptr b2]) (t := 28) (fr := (0, 0)) (heap_alloc_last w3 _)) (ptr_one [b2]) (by omega) (by unfold maxLen; omega) (by omega) (by have := HW3.out.bel.size; simp; omega) (w3.heap.size + 1) (by simp) ?_; intro g5 cp5 W9 hown9 hg9 hat9 hlt9)
            have hb1 := HOX.out.keep (w' := w3.alloc (.cells #[ptr b2] 28)) fun j hj _ => (re_alloc w3 _).block j hj
            have hW9 := (HW3.out.later (re_alloc w3 _)).appended (n := bs.length + 1) (AreReX.one hb1) (by simp) rfl hown9 hg9 hat9
            have HW9 : Hid (ListPost w R (.returned (.slice (some ⟨g5, 0, none⟩) (bs.length + 1) cp5)) W9) := ⟨_, _, rfl, by rw [HJ.out, ← HL.out]; exact hW9.base HBEL.out⟩
            clear hW9 hb1 hown9 hg9 hat9
            go_wp2
            go_ret
            exact HW9.out
          · have hz0' : ((z.op : Int) == 0) = false := by rw [beq_eq_false_iff_ne]; omega
            have HGO := Lib.hid (HGO1.out hz0)
            have HX : Hid (OneAt u7 (ptr b2) w3 (some z)) := ⟨b2, rfl, HOX.out, HZW.out⟩
            clear hz0
            go_wp2_with fail
            go_roundw
            case rel => exact ⟨k + 1, _, O, some z, by omega, by go_num, HW3.out, HX.out, by omega, HOW.out, HGO.out⟩
            case measure => simp [intOf]; omega
      · have hr2' : ((r.op : Int) != 2) = true := by rw [bne_iff_ne]; omega
        have HGO : Hid (RE.joinGo f (F.drop (k + 1)) (O ++ [r]) x = RE.joinGo f F [] none) := by
          show _ = _
          rw [← hgo]; simp [RE.joinGo, hr2]
        have HX := Lib.hid hx
        have HW := Lib.hid hW
        have HOW : Hid (∀ r' ∈ O ++ [r], RE.wf r') := fun r' hr' => by
          rcases List.mem_append.1 hr' with h | h
          · exact hOw r' h
          · rw [List.mem_singleton.1 h]; exact hrwf
        have HBX := Lib.hid hbX
        clear hnode hb hbX hb0 hkids hrw hgo hW hx hOw hrwf hdrop hbl hr2
        go_wp2_with (at_builtin; refine wpList_append_lies _ rfl _ _ _ rfl w1.heap.size 28 i0 _ 1 8 Tryz.underlying113 HI.out HZ0.out HZ1.out HZ2.out rfl (by omega) u7 bs.length (bs.map ptr) rfl (HW.out.own.alloc _) ⟨wr.heap.size, 0, none⟩ 1 1 [ptr b] rfl rfl (World.news_of_block (cs := #[ptr b]) (t := 28) (fr := (0, 0)) (heap_alloc_last wr _)) (ptr_one [b]) (by omega) (by unfold maxLen; omega) (by omega) (by have := HW.out.bel.size; simp; omega) (wr.heap.size + 1) (by simp) ?_; intro g5 cp5 W9 hown9 hg9 hat9 hlt9)
        have hb1 := HBX.out.keep (w' := wr.alloc (.cells #[ptr b] 28)) fun j hj _ => (re_alloc wr _).block j hj
        have hW9 := (HW.out.later (re_alloc wr _)).appended (n := bs.length + 1) (AreReX.one hb1) (by simp) rfl hown9 hg9 hat9
        have hX9 := (HX.out.later (re_alloc wr (.cells #[ptr b] 28))).appended (n := bs.length + 1) (cp := cp5) (H := wr.heap.size + 1) hg9 hat9 (by simp)
        have HW9 := Lib.hid hW9
        have HX9 := Lib.hid hX9
        have hlO2 : (O ++ [r]).length ≤ k + 1 := by simp; omega
        clear hW9 hX9 hb1 hown9 hg9 hat9
        go_wp2
        go_roundw
        case rel => exact ⟨k + 1, _, O ++ [r], x, by omega, by go_num, HW9.out, HX9.out, hlO2, HOW.out, HGO.out⟩
        case measure => simp [intOf]; omega
    · obtain rfl : k = F.length := by omega
      rw [List.drop_length] at hgo
      have hbO : bs.length ≤ 1099511627775 := by rw [hW.are.1]; omega
      cases x with
      | none =>
        have hv : u8 = .pointer none := hx
        subst hv
        have HU := Lib.hid (unique_any u7 bs O w1 wr hW hOw (by omega))
        have HL : Hid (RE.uniq O = R) := by show _ = _; rw [HJ.out, ← hgo]; rfl
        clear hW hOw hgo hx
        go_wp2_with fail
        refine HU.out.mono ?_
        rintro e w2 ⟨v', bs', rfl, hO'⟩
        rw [HL.out] at hO'
        have HO' := Lib.hid (hO'.base HBEL.out)
        clear hO'
        go_wp2_with fail
        go_ret
        exact ⟨_, _, rfl, HO'.out⟩
      | some y =>
        obtain ⟨b1, hv, hyX, hyw⟩ := hx
        subst hv
        have HW := Lib.hid hW
        have HL : Hid (RE.uniq (O ++ [y]) = R) := by show _ = _; rw [HJ.out, ← hgo]; rfl
        have HOW : Hid (∀ r' ∈ O ++ [y], RE.wf r') := fun r' hr' => by
          rcases List.mem_append.1 hr' with h | h
          · exact hOw r' h
          · rw [List.mem_singleton.1 h]; exact hyw
        have HBX := Lib.hid hyX
        clear hW hOw hgo hyX hyw
        go_wp2_with (at_builtin; refine wpList_append_lies _ rfl _ _ _ rfl w1.heap.size 28 i0 _ 1 8 Tryz.underlying113 HI.out HZ0.out HZ1.out HZ2.out rfl (by omega) u7 bs.length (bs.map ptr) rfl (HW.out.own.alloc _) ⟨wr.heap.size, 0, none⟩ 1 1 [ptr b1] rfl rfl (World.news_of_block (cs := #[ptr b1]) (t := 28) (fr := (0, 0)) (heap_alloc_last wr _)) (ptr_one [b1]) (by omega) (by unfold maxLen; omega) (by omega) (by have := HW.out.bel.size; simp; omega) (wr.heap.size + 1) (by simp) ?_; intro g5 cp5 W9 hown9 hg9 hat9 hlt9)
        have hb1 := HBX.out.keep (w' := wr.alloc (.cells #[ptr b1] 28)) fun j hj _ => (re_alloc wr _).block j hj
        have hW9 := (HW.out.later (re_alloc wr _)).appended (n := bs.length + 1) (AreReX.one hb1) (by simp) rfl hown9 hg9 hat9
        have HU := Lib.hid (unique_any _ _ _ w1 _ hW9 HOW.out (by simp; omega))
        clear hW9 hb1 hown9 hg9 hat9
        go_wp2_with fail
        refine HU.out.mono ?_
        rintro e w2 ⟨v', bs', rfl, hO'⟩
        rw [HL.out] at hO'
        have HO' := Lib.hid (hO'.base HBEL.out)
        clear hO'
        go_wp2_with fail
        go_ret
        exact ⟨_, _, rfl, HO'.out⟩
end Go.Proofs.YtgamknphlmcgnaaGreatDoor
end
section
set_option linter.unusedSimpArgs false
set_option linter.unusedVariables false
set_option maxRecDepth 100000
set_option linter.unnecessarySimpa false
namespace Go.Proofs.YtgamknphlmcgnaaGreatDoor
open Go.RowKit
/-- the parts of a text's expression -/
def RE.byteRE (b : UInt8) : RE := RE.one (BS.ofL [(b.toNat : Int)])
def RE.wordL (l : List UInt8) : RE := RE.thenL (l.map fun b => some (RE.byteRE b))
theorem RE.one_size (s : BS) : (RE.one s).size = 1 := by unfold RE.one; split <;> simp [RE.nothing, RE.size, RE.sizes]
end Go.Proofs.YtgamknphlmcgnaaGreatDoor
end
section
set_option linter.unusedSimpArgs false
set_option linter.unusedVariables false
set_option maxRecDepth 100000
set_option linter.unnecessarySimpa false
namespace Go.Proofs.YtgamknphlmcgnaaGreatDoor
open Go.RowKit Go.Sort Go.Lib
def RePost (w : World) (r : RE) (e : Ending) (w' : World) : Prop := ∃ b, e = .returned (ptr b) ∧ IsRe w' b r ∧ Below w.heap.size w w'
theorem Del_own (g : Nat) (p : RE → Bool) (hg : Asks g p) (eg : ∀ args w, (callFunc g args).run Tryz.prog w = .ok (.enter g args) w) (v : Value) (bs : List Nat) (ls : List RE) (w wr : World) (h : OwnRe w ls bs v wr) (hsz : ls.length ≤ 1099511627776) :
    Calls Tryz.prog 60 #[v, .func (.func g) #[] #[]] wr (ListPost w (ls.filter fun r => !p r)) := by
  by_cases hne : ls = []
  · subst hne
    obtain ⟨kp, cap, rfl, hrow, _⟩ := h.row
    refine (DeleteFunc_none g p hg eg kp cap bs [] wr hrow h.are.is (by simp) (by simp)).mono fun e w' hh => ?_
    obtain ⟨rfl, rfl⟩ := hh
    exact ⟨_, bs, rfl, by simpa using h⟩
  · obtain ⟨g1, cap, rfl, hcap, hg1, hQ⟩ := h.rowQ hne
    have hl := h.are.1
    have hds : (((bs.zip ls).map some).toArray : Array QE).size = ls.length := by simp; omega
    have hd := DeleteFunc_any g p hg eg g1 0 cap ((bs.zip ls).map some).toArray wr hQ (by omega) (by omega)
    rw [hds] at hd
    refine hd.mono fun e w' hh => ?_
    have hz : (bs.zip ls).map Prod.snd = ls := List.map_snd_zip (by omega)
    have hlq : leftQ p ((bs.zip ls).map some).toArray = ((bs.zip ls).filter fun q => !p q.2).map some := by
      unfold leftQ
      rw [List.toList_toArray, List.filter_map]; rfl
    rw [hlq] at hh
    have hf := h.left hne (L := ((bs.zip ls).filter fun q => !p q.2).map some) (fun x hx => by
      obtain ⟨q, hq, rfl⟩ := List.mem_map.1 hx
      exact List.mem_map.2 ⟨q, (List.mem_filter.1 hq).1, rfl⟩) (by
      rw [List.length_map]
      exact Nat.le_trans (List.length_filter_le _ _) (by simp; omega)) hh
    obtain ⟨he, hF⟩ := hf
    have e2 : (((bs.zip ls).filter fun q => !p q.2).map some).map treeQ = ls.filter fun r => !p r := by
      conv => rhs; rw [← hz]
      rw [List.map_map, List.filter_map]; rfl
    rw [e2] at hF
    exact ⟨_, _, he, hF⟩
theorem any_of_idx {p : RE → Bool} {ls : List RE} {i : Int} (h : IdxRes p ls i) : decide (i ≥ 0) = ls.any p := by
  rcases h with ⟨rfl, h⟩ | ⟨k, hk, rfl, h, _⟩
  · rw [List.any_eq_false.2 fun r hr => by simp [h r hr]]; rfl
  · rw [List.any_eq_true.2 ⟨_, List.getElem_mem hk, by simpa [List.getD, hk] using h⟩]; simp
theorem Contains_any (g : Nat) (p : RE → Bool) (hg : Asks g p) (eg : ∀ args w, (callFunc g args).run Tryz.prog w = .ok (.enter g args) w) (kp : Option Addr) (cap : Nat) (bs : List Nat) (ls : List RE) (w : World) (hr : PtrsAt w kp bs) (hk : AreRe w bs ls) (hln : ls.length ≤ 1099511627776) :
    Calls Tryz.prog 155 #[.slice kp ls.length cap, .func (.func g) #[] #[]] w fun e w' => e = .returned (.bool (ls.any p)) ∧ w' = w := by
  have HI := Lib.hid (IndexFunc_any g p hg eg kp cap bs ls w hr hk hln)
  clear hr hk hg
  go_enter Tryz.func155, Tryz.ntmps155
  go_wp2_with fail
  refine HI.out.mono ?_
  rintro e w' ⟨⟨i, hres, rfl⟩, rfl⟩
  have HA : Hid (decide (i ≥ 0) = ls.any p) := any_of_idx hres
  clear hres
  go_wp2_with fail
  go_ret
  exact ⟨congrArg (fun b => Ending.returned (.bool b)) HA.out, rfl⟩
theorem isNone : Asks 154 (fun r => r.op == 0) := by
  intro W b r hb
  obtain ⟨kp1, cap1, bs1, hnode, hptr, hkids⟩ := hb.open
  have hop : W.cell? ⟨b, 0, none⟩ = some (.int .i64 (r.op : Nat)) := by rw [cell_of_row _ _ _ _ _ _ hnode]; rfl
  clear hnode hptr hkids hb
  have he : ((r.op : Int) == 0) = (r.op == 0) := by
    by_cases h : r.op = 0
    · simp [h]
    · have h2 : ¬ ((r.op : Int) = 0) := by omega
      rw [beq_eq_false_iff_ne.2 h, beq_eq_false_iff_ne.2 h2]
  have HE := Lib.hid he
  clear he
  go_enter Tryz.func154, Tryz.ntmps154
  go_wp2_with fail
  rw [HE.out]
  go_wp2_with fail
  go_ret
  exact ⟨rfl, rfl⟩
theorem node_of {o : Nat} {w w1 w2 : World} {F : List RE} {bs : List Nat} {kp : Option Addr} {n cap b : Nat} (hO : OwnRe w F bs (.slice kp n cap) w1) (hr : PtrsAt w1 kp bs) (h4 : w2.heap[b]? = some (.cells (nodeCells (RE.node o BS.none F) kp cap) 117 (0, 0))) (h5 : Below w1.heap.size w1 w2) : RePost w (RE.node o BS.none F) (.returned (ptr b)) w2 :=
  ⟨b, rfl, IsRe.made h4 hr hO.ty hO.are.is h5, ext_step hO.bel h5⟩
theorem head_of {w w1 : World} {x : RE} {bs : List Nat} {v : Value} {kb ko : Nat} (hO : OwnRe w [x] bs v w1) (hrw : ∀ i, i < bs.length → w1.cell? ⟨kb, ko + i, none⟩ = some (ptr (bs.getD i 0))) : ∃ b, w1.cell? ⟨kb, ko, none⟩ = some (.pointer (some ⟨b, 0, none⟩)) ∧ RePost w x (.returned (ptr b)) w1 := by
  have hl := hO.are.1
  refine ⟨bs.getD 0 0, by have := hrw 0 (by rw [hl]; simp); simpa using this, bs.getD 0 0, rfl, ?_, hO.bel⟩
  have := hO.are.is.2 0 (by simp)
  simpa using this
set_option maxRecDepth 100000 in
set_option maxHeartbeats 4000000 in
theorem Any_any (kp : Option Addr) (cap : Nat) (l : List (Option RE)) (w : World) (hl : ListO w kp l) (hnf : RE.nfO l) (hsz : RE.sizes (RE.flat 4 l) ≤ 1099511627775) (hln : l.length ≤ 1099511627776) :
    Calls Tryz.prog 122 #[.slice kp l.length cap] w (RePost w (RE.anyL l)) := by
  have hlen := RE.len_sizes (RE.flat 4 l)
  have hjs := RE.joinL_sizes 4 RE.orS l
  have HJ := Lib.hid (join_any 4 153 RE.orS (fun s t W => Or_any s.a s.b s.c s.d t.a t.b t.c t.d W) (enters_of Tryz.func153 (by kernel_rfl) rfl) kp cap l w hl (RE.flat_ne (by omega) hnf) (fun r hr => RE.nf_wf r (RE.nf_flat hnf r hr)) (by omega) hln)
  have HR : Hid (RE.anyL l = RE.anyOf ((RE.joinL 4 RE.orS l).filter fun r => !(r.op == 0))) := rfl
  have hjl := RE.len_sizes (RE.joinL 4 RE.orS l)
  clear hl hnf
  generalize RE.anyL l = R at *
  generalize RE.joinL 4 RE.orS l = J at *
  have hfs := RE.sizes_filter J (fun r => !(r.op == 0))
  have hfl := RE.len_sizes (J.filter fun r => !(r.op == 0))
  go_enter Tryz.func122, Tryz.ntmps122
  go_wp2_with fail
  refine HJ.out.mono ?_
  rintro e w1 ⟨v1, bs1, rfl, hO1⟩
  have HD := Lib.hid (Del_own 154 (fun r => r.op == 0) isNone (enters_of Tryz.func154 (by kernel_rfl) rfl) v1 bs1 J w w1 hO1 (by omega))
  clear hO1
  generalize (J.filter fun r => !(r.op == 0)) = F at *
  go_wp2_with fail
  refine HD.out.mono ?_
  rintro e w2 ⟨v2, bs2, rfl, hO⟩
  obtain ⟨kp1, cap1, rfl, hrow, _⟩ := hO.row
  by_cases h0 : F.length = 0
  · have HT2 : Hid (R = RE.nothing) := by show _ = _; rw [HR.out, List.length_eq_zero_iff.1 h0]; rfl
    rw [h0]
    have HB := Lib.hid hO.bel
    clear hO hrow
    go_wp2_with fail
    refine (Nothing_any _).mono ?_
    rintro e w3 ⟨b, rfl, h1, h2⟩
    go_wp2_with fail
    go_ret
    exact ⟨b, rfl, by rw [HT2.out]; exact h1.is, ext_step HB.out h2⟩
  · rcases hrow with h1 | ⟨kb, ko, rfl, hrw⟩
    · have := hO.are.1; rw [h1] at this; simp at this; omega
    by_cases h1 : F.length = 1
    · match F, h1 with
      | [x], _ =>
      have HT2 : Hid (R = x) := by show _ = _; rw [HR.out]; rfl
      obtain ⟨b0, hptr, hp⟩ := head_of hO hrw
      have HP := Lib.hid hp
      clear hp hO hrw
      go_wp2_with fail
      go_ret
      rw [HT2.out]
      exact HP.out
    · have HT2 : Hid (R = RE.node 4 BS.none F) := by
        show _ = _
        rw [HR.out]
        match F, h0, h1 with
        | x :: y :: z, _, _ => rfl
      have HC := Lib.hid (Contains_any 156 RE.null Null_asks (enters_of Tryz.func156 (by kernel_rfl) rfl) (some ⟨kb, ko, none⟩) cap1 bs2 F w2 (.inr ⟨kb, ko, rfl, hrw⟩) hO.are.is (by omega))
      have HM := Lib.hid (made_zero 4 (by omega) (by omega) (F.any RE.null) (some ⟨kb, ko, none⟩) cap1 bs2 F w2 (.inr ⟨kb, ko, rfl, hrw⟩) hO.are.is (by simp [RE.null, RE.nullAny_eq]) (by omega))
      have h0' : ((F.length : Int) == 0) = false := by rw [beq_eq_false_iff_ne]; omega
      have h1' : ((F.length : Int) == 1) = false := by rw [beq_eq_false_iff_ne]; omega
      have HOW := Lib.hid hO
      have HRW := Lib.hid hrw
      generalize F.any RE.null = nl at *
      clear hO hrw h0 h1
      go_wp2_with fail
      refine HC.out.mono ?_
      rintro e w' ⟨rfl, rfl⟩
      go_wp2_with fail
      refine HM.out.mono ?_
      rintro e w3 ⟨b, rfl, h3, h4, h5⟩
      go_wp2_with fail
      go_ret
      rw [HT2.out]
      exact node_of HOW.out (.inr ⟨kb, ko, rfl, HRW.out⟩) h4 h5
theorem many_self (r : RE) (h : r.op = 5) : RE.many (some r) = r := by simp [RE.many, h]
theorem many_empty (r : RE) (h : r.op = 0 ∨ r.op = 1) : RE.many (some r) = RE.empty := by simp [RE.many, h]
theorem many_node (r : RE) (h0 : r.op ≠ 0) (h1 : r.op ≠ 1) (h5 : r.op ≠ 5) : RE.many (some r) = RE.node 5 BS.none [r] := by simp [RE.many, h0, h1, h5]
set_option maxRecDepth 100000 in
set_option maxHeartbeats 4000000 in
theorem Many_any (v : Value) (o : Option RE) (w : World) (h : IsReO w v o) (hsz : RE.sizeO o ≤ 1099511627775) :
    Calls Tryz.prog 19 #[v] w (RePost w (RE.many o)) := by
  cases o with
  | none =>
    have hv : v = .pointer none := h
    subst hv
    have HT : Hid (RE.many none = RE.empty) := rfl
    go_enter Tryz.func19, Tryz.ntmps19
    go_wp2_with fail
    refine (EmptyRe_any _).mono ?_
    rintro e w2 ⟨b, rfl, h1, h2⟩
    go_wp2_with fail
    go_ret
    exact ⟨b, rfl, by rw [HT.out]; exact h1.is, h2⟩
  | some r =>
    obtain ⟨b, rfl, hb⟩ := h
    have hsz : r.size ≤ 1099511627775 := hsz
    obtain ⟨kp1, cap1, bs1, hnode, _, _⟩ := hb.open
    have hop : w.cell? ⟨b, 0, none⟩ = some (.int .i64 (r.op : Nat)) := by rw [cell_of_row _ _ _ _ _ _ hnode]; rfl
    clear hnode
    have HB := Lib.hid hb
    clear hb
    by_cases h0 : r.op = 0
    · have HT := Lib.hid (many_empty r (.inl h0))
      rw [h0] at hop
      generalize RE.many (some r) = R at *
      clear h0
      go_enter Tryz.func19, Tryz.ntmps19
      go_wp2_with fail
      refine (EmptyRe_any _).mono ?_
      rintro e w2 ⟨b', rfl, h1, h2⟩
      go_wp2_with fail
      go_ret
      exact ⟨b', rfl, by rw [HT.out]; exact h1.is, h2⟩
    · by_cases h1 : r.op = 1
      · have HT := Lib.hid (many_empty r (.inr h1))
        rw [h1] at hop
        generalize RE.many (some r) = R at *
        clear h0 h1
        go_enter Tryz.func19, Tryz.ntmps19
        go_wp2_with fail
        refine (EmptyRe_any _).mono ?_
        rintro e w2 ⟨b', rfl, h1, h2⟩
        go_wp2_with fail
        go_ret
        exact ⟨b', rfl, by rw [HT.out]; exact h1.is, h2⟩
      · by_cases h5 : r.op = 5
        · have HT := Lib.hid (many_self r h5)
          rw [h5] at hop
          generalize RE.many (some r) = R at *
          clear h0 h1 h5
          go_enter Tryz.func19, Tryz.ntmps19
          go_wp2_with fail
          go_ret
          exact ⟨b, rfl, by rw [HT.out]; exact HB.out, Below.refl _ _⟩
        · have HT := Lib.hid (many_node r h0 h1 h5)
          have g0 : ((r.op : Int) == 0) = false := by rw [beq_eq_false_iff_ne]; omega
          have g1 : ((r.op : Int) == 1) = false := by rw [beq_eq_false_iff_ne]; omega
          have g5 : ((r.op : Int) == 5) = false := by rw [beq_eq_false_iff_ne]; omega
          have hrow : ∀ o : Obj, PtrsAt (w.alloc (.cells #[ptr b] 28)) (some ⟨w.heap.size, 0, none⟩) [b] := fun _ => .inr ⟨w.heap.size, 0, rfl, fun i hi => by
            obtain rfl : i = 0 := by simpa using hi
            rw [cell_of_row _ _ _ _ _ _ (heap_alloc_last w _)]; rfl⟩
          have hre : AreRe (w.alloc (.cells #[ptr b] 28)) [b] [r] := ⟨rfl, fun i hi => by
            obtain rfl : i = 0 := by simpa using hi
            exact HB.out.later (Nat.le_refl _) (re_alloc w _)⟩
          have HM := Lib.hid (made_zero 5 (by omega) (by omega) true (some ⟨w.heap.size, 0, none⟩) 1 [b] [r] (w.alloc (.cells #[ptr b] 28)) (hrow (.cells #[] 0)) hre (by simp [RE.null]) (by simp [RE.sizes]; omega))
          have HRW := Lib.hid (hrow (.cells #[] 0))
          have HRE := Lib.hid hre
          generalize RE.many (some r) = R at *
          clear h0 h1 h5 hrow hre
          go_enter Tryz.func19, Tryz.ntmps19
          go_wp2_with fail
          refine HM.out.mono ?_
          rintro e w3 ⟨b', rfl, h3, h4, h5⟩
          go_wp2_with fail
          go_ret
          rw [HT.out]
          exact ⟨b', rfl, IsRe.made h4 HRW.out (fun _ a ha => by cases ha; exact ⟨_, _, heap_alloc_last _ _⟩) HRE.out h5, (re_alloc w _).trans (h5.mono (by simp))⟩
abbrev Set4 (W : World) (b : Nat) (s0 s1 s2 s3 : BitVec 64) : Prop := W.cell? ⟨b, 1, none⟩ = some (.int .u64 (wN s0)) ∧ W.cell? ⟨b, 1 + 1, none⟩ = some (.int .u64 (wN s1)) ∧ W.cell? ⟨b, 1 + 2, none⟩ = some (.int .u64 (wN s2)) ∧ W.cell? ⟨b, 1 + 3, none⟩ = some (.int .u64 (wN s3))
def R0 (x y : RE) : RE := RE.but (some x) (some y)
theorem re_cells {w : World} {b : Nat} {r : RE} (h : IsRe w b r) : w.cell? ⟨b, 0, none⟩ = some (.int .i64 (r.op : Nat)) ∧ w.cell? ⟨b, 2 + 3 + 1, none⟩ = some (.bool r.null) ∧
    (w.cell? ⟨b, 1, none⟩ = some (.int .u64 (wN r.set.a)) ∧ w.cell? ⟨b, 1 + 1, none⟩ = some (.int .u64 (wN r.set.b)) ∧ w.cell? ⟨b, 1 + 2, none⟩ = some (.int .u64 (wN r.set.c)) ∧ w.cell? ⟨b, 1 + 3, none⟩ = some (.int .u64 (wN r.set.d))) := by
  obtain ⟨kp1, cap1, bs1, hnode, _, _⟩ := h.open
  exact ⟨by rw [cell_of_row _ _ _ _ _ _ hnode]; rfl, by rw [cell_of_row _ _ _ _ _ _ hnode]; rfl, by rw [cell_of_row _ _ _ _ _ _ hnode]; rfl, by rw [cell_of_row _ _ _ _ _ _ hnode]; rfl, by rw [cell_of_row _ _ _ _ _ _ hnode]; rfl, by rw [cell_of_row _ _ _ _ _ _ hnode]; rfl⟩
set_option maxRecDepth 100000 in
set_option maxHeartbeats 4000000 in
theorem But_any (v v' : Value) (o o' : Option RE) (w : World) (h : IsReO w v o) (h' : IsReO w v' o') (hsz : RE.sizeO o + RE.sizeO o' ≤ 1099511627775) :
    Calls Tryz.prog 124 #[v, v'] w (RePost w (RE.but o o')) := by
  cases o with
  | none =>
    have hv : v = .pointer none := h
    subst hv
    have HT : Hid (RE.but none o' = RE.nothing) := rfl
    go_enter Tryz.func124, Tryz.ntmps124
    go_wp2_with fail
    refine (Nothing_any _).mono ?_
    rintro e w2 ⟨b, rfl, h1, h2⟩
    go_wp2_with fail
    go_ret
    exact ⟨b, rfl, by rw [HT.out]; exact h1.is, h2⟩
  | some x =>
    obtain ⟨b, rfl, hb⟩ := h
    obtain ⟨hop, hnl, hset⟩ := re_cells hb
    have HSAME := Lib.hid (Same_any (ptr b) v' (some x) o' w ⟨b, rfl, hb⟩ h')
    have HB := Lib.hid hb
    clear hb
    by_cases h0 : x.op = 0
    · have HT : Hid (RE.but (some x) o' = RE.nothing) := by show _ = _; simp [RE.but, h0]
      rw [h0] at hop
      generalize RE.but (some x) o' = R at *
      clear h0 hset hnl
      go_enter Tryz.func124, Tryz.ntmps124
      go_wp2_with fail
      refine (Nothing_any _).mono ?_
      rintro e w2 ⟨b', rfl, h1, h2⟩
      go_wp2_with fail
      go_ret
      exact ⟨b', rfl, by rw [HT.out]; exact h1.is, h2⟩
    · have g0 : ((x.op : Int) == 0) = false := by rw [beq_eq_false_iff_ne]; omega
      by_cases hs : RE.keyO (some x) = RE.keyO o'
      · have HT : Hid (RE.but (some x) o' = RE.nothing) := by show _ = _; unfold RE.but; simp [h0, hs]
        have hsm : sameB (some x) o' = true := decide_eq_true hs
        rw [hsm] at HSAME
        generalize RE.but (some x) o' = R at *
        clear h0 hset hnl hs hsm
        go_enter Tryz.func124, Tryz.ntmps124
        go_wp2_with fail
        refine HSAME.out.mono ?_
        rintro e w' ⟨rfl, rfl⟩
        go_wp2_with fail
        refine (Nothing_any _).mono ?_
        rintro e w2 ⟨b', rfl, h1, h2⟩
        go_wp2_with fail
        go_ret
        exact ⟨b', rfl, by rw [HT.out]; exact h1.is, h2⟩
      · have hsm : sameB (some x) o' = false := decide_eq_false hs
        rw [hsm] at HSAME
        clear hsm
        cases o' with
        | none =>
          have hv : v' = .pointer none := h'
          subst hv
          have HT : Hid (RE.but (some x) none = x) := by show _ = _; unfold RE.but; simp only [h0, hs, if_false]
          generalize RE.but (some x) none = R at *
          clear h0 hset hnl hs
          go_enter Tryz.func124, Tryz.ntmps124
          go_wp2_with fail
          refine HSAME.out.mono ?_
          rintro e w' ⟨rfl, rfl⟩
          go_wp2_with fail
          go_ret
          exact ⟨b, rfl, by rw [HT.out]; exact HB.out, Below.refl _ _⟩
        | some y =>
          obtain ⟨b1, rfl, hb1⟩ := h'
          obtain ⟨hop1, hnl1, hset1⟩ := re_cells hb1
          have HB1 := Lib.hid hb1
          clear hb1
          by_cases hy0 : y.op = 0
          · have HT : Hid (RE.but (some x) (some y) = x) := by show _ = _; unfold RE.but; simp only [h0, hs, hy0, if_false, if_true]
            rw [hy0] at hop1
            generalize RE.but (some x) (some y) = R at *
            clear h0 hset hnl hs hset1 hnl1 hy0
            go_enter Tryz.func124, Tryz.ntmps124
            go_wp2_with fail
            refine HSAME.out.mono ?_
            rintro e w' ⟨rfl, rfl⟩
            go_wp2_with fail
            go_ret
            exact ⟨b, rfl, by rw [HT.out]; exact HB.out, Below.refl _ _⟩
          · have gy0 : ((y.op : Int) == 0) = false := by rw [beq_eq_false_iff_ne]; omega
            by_cases h2 : x.op = 2 ∧ y.op = 2
            · have HT : Hid (RE.but (some x) (some y) = RE.one (RE.minusS x.set y.set)) := by show _ = _; unfold RE.but; simp only [h0, hs, hy0, h2, if_false, if_true, and_self]; rfl
              rw [h2.1] at hop
              rw [h2.2] at hop1
              obtain ⟨xs, hxs⟩ : ∃ s, x.set = s := ⟨_, rfl⟩
              obtain ⟨ys, hys⟩ : ∃ s, y.set = s := ⟨_, rfl⟩
              have HTX : Hid (R0 x y = RE.one (RE.minusS xs ys)) := by rw [← hxs, ← hys]; exact HT.out
              rw [hxs] at hset
              rw [hys] at hset1
              obtain ⟨x0, x1, x2, x3⟩ := xs
              obtain ⟨y0, y1, y2, y3⟩ := ys
              obtain ⟨S, hS⟩ : ∃ S : World → Prop, ∀ W', S W' ↔ (Set4 W' b x0 x1 x2 x3 ∧ Set4 W' b1 y0 y1 y2 y3) := ⟨_, fun _ => Iff.rfl⟩
              have HS := Lib.hid hS
              clear hS
              have cs : ∀ p : InC S, (Set4 p.w b x0 x1 x2 x3) ∧ Set4 p.w b1 y0 y1 y2 y3 := fun p => (HS.out p.w).1 p.h
              have hS0 : S w.drew := (HS.out _).2 ⟨hset, hset1⟩
              have hne : Nonempty (InC S) := ⟨⟨_, hS0⟩⟩
              clear h0 hset hnl hs hset1 hnl1 hy0 h2 hxs hys HT
              show Calls _ _ _ _ (RePost w (R0 x y))
              generalize R0 x y = R at *
              go_enter Tryz.func124, Tryz.ntmps124
              go_wp2_with fail
              refine HSAME.out.mono ?_
              rintro e w' ⟨rfl, rfl⟩
              go_wp2_with fail
              clear hop hop1
              refine wp_region_mix S [0, 1, 2, 3, 4, 5, 6, 7] [0, 1, 2, 3, 4, 5, 6, 7, 8, 9, 10] (by kernel_rfl) (by kernel_rfl) hS0 ?_
              (repeat (refine wpMix_read rfl rfl ?_; go_big_quiet_step (fail); refine wpQuiet_nil ?_))
              clear cs hne hS0
              refine wpMix_eff (k := false) rfl rfl (by kernel_rfl) ?_
              go_wp2_with fail
              refine (Minus_any x0 x1 x2 x3 y0 y1 y2 y3 _).mono ?_
              rintro e w2 ⟨rfl, hb2⟩
              have hB2 : Below w'.heap.size w' w2 := by repeat (first | exact Below.refl _ _ | assumption | refine Below.drew ?_ | refine ext_drewN ?_ _ | refine ext_alloc ?_ _ | refine Below.setCell ?_ (by (try simp only [World.size_alloc, World.size_setCell, World.size_drew]); omega) _ | refine ext_step ?_ (by assumption))
              clear hb2
              go_wp2_with fail
              refine mixPost_last ?_
              refine wpMix_eff (k := false) rfl rfl (by kernel_rfl) ?_
              go_wp2_with fail
              refine (One_any _ _ _ _ _).mono ?_
              rintro e w3 ⟨b2, rfl, hone, hb3⟩
              have hB3 := ext_step hB2 hb3
              have HP : Hid (RePost w' R (.returned (ptr b2)) w3) := ⟨b2, rfl, by rw [HTX.out]; exact hone.is, hB3⟩
              clear hone hb3 hB2 hB3
              go_wp2_with fail
              refine mixPost_last ?_
              refine wpMix_eff (k := false) rfl rfl (by kernel_rfl) ?_
              go_wp2_with fail
              refine mixPost_last (wpMix_nil ?_)
              go_wp2_with fail
              go_ret
              exact HP.out
            · have HT : Hid (RE.but (some x) (some y) = RE.node 7 BS.none [x, y]) := by show _ = _; unfold RE.but; simp only [h0, hs, hy0, h2, if_false]
              obtain ⟨nx, hnx⟩ : ∃ n, x.null = n := ⟨_, rfl⟩
              obtain ⟨ny, hny⟩ : ∃ n, y.null = n := ⟨_, rfl⟩
              have hnull : (nx && !ny) = (RE.node 7 BS.none [x, y]).null := by rw [← hnx, ← hny]; simp [RE.null, RE.nullBut, RE.nullAny]
              rw [hnx] at hnl
              rw [hny] at hnl1
              have hrow : PtrsAt (w.alloc (.cells #[ptr b, ptr b1] 28)) (some ⟨w.heap.size, 0, none⟩) [b, b1] := .inr ⟨w.heap.size, 0, rfl, fun i hi => by
                have : i = 0 ∨ i = 1 := by simp at hi; omega
                rcases this with rfl | rfl
                · rw [cell_of_row _ _ _ _ _ _ (heap_alloc_last w _)]; rfl
                · rw [cell_of_row _ _ _ _ _ _ (heap_alloc_last w _)]; rfl⟩
              have hre : AreRe (w.alloc (.cells #[ptr b, ptr b1] 28)) [b, b1] [x, y] := ⟨rfl, fun i hi => by
                have : i = 0 ∨ i = 1 := by simp at hi; omega
                rcases this with rfl | rfl
                · exact HB.out.later (Nat.le_refl _) (re_alloc w _)
                · exact HB1.out.later (Nat.le_refl _) (re_alloc w _)⟩
              have hsz' : RE.sizes [x, y] ≤ 1099511627776 := by simp only [RE.sizeO] at hsz; simp only [RE.sizes]; omega
              have HM := Lib.hid (made_zero 7 (by omega) (by omega) (nx && !ny) (some ⟨w.heap.size, 0, none⟩) 2 [b, b1] [x, y] (w.alloc (.cells #[ptr b, ptr b1] 28)) hrow hre hnull hsz')
              have HRW := Lib.hid hrow
              have HRE := Lib.hid hre
              have g2 : (nx = nx ∧ ((x.op : Int) == 2) = false) ∨ (((x.op : Int) == 2) = true ∧ ((y.op : Int) == 2) = false) := by
                by_cases e : x.op = 2
                · right
                  exact ⟨by rw [e]; rfl, by rw [beq_eq_false_iff_ne]; intro e2; exact h2 ⟨e, by omega⟩⟩
                · left
                  exact ⟨rfl, by rw [beq_eq_false_iff_ne]; omega⟩
              generalize RE.but (some x) (some y) = R at *
              clear h0 hset hs hset1 hy0 h2 hrow hre hsz' hsz hnull hnx hny
              rcases g2 with ⟨_, g2⟩ | ⟨g2, g3⟩
              all_goals
                cases nx
                all_goals
                  go_enter Tryz.func124, Tryz.ntmps124
                  go_wp2_with fail
                  refine HSAME.out.mono ?_
                  rintro e w' ⟨rfl, rfl⟩
                  go_wp2_with fail
                  refine HM.out.mono ?_
                  rintro e w3 ⟨b', rfl, h3, h4, h5⟩
                  go_wp2_with fail
                  go_ret
                  rw [HT.out]
                  exact ⟨b', rfl, IsRe.made h4 HRW.out (fun _ a ha => by cases ha; exact ⟨_, _, heap_alloc_last _ _⟩) HRE.out h5, (re_alloc _ _).trans (h5.mono (by simp))⟩
-- printed by gen_loop.py from here on
set_option maxRecDepth 100000 in
set_option maxHeartbeats 4000000 in
theorem Both_any (kp : Option Addr) (cap : Nat) (l : List (Option RE)) (w : World) (hl : ListO w kp l) (hnf : RE.nfO l) (hsz : RE.sizes (RE.flat 6 l) ≤ 1099511627775) (hln : l.length ≤ 1099511627776) :
    Calls Tryz.prog 123 #[.slice kp l.length cap] w (RePost w (RE.bothL l)) := by
  have hlen := RE.len_sizes (RE.flat 6 l)
  have hjs := RE.joinL_sizes 6 RE.andS l
  have HJ := Lib.hid (join_any 6 157 RE.andS (fun s t W => And_any s.a s.b s.c s.d t.a t.b t.c t.d W) (enters_of Tryz.func157 (by kernel_rfl) rfl) kp cap l w hl (RE.flat_ne (by omega) hnf) (fun r hr => RE.nf_wf r (RE.nf_flat hnf r hr)) (by omega) hln)
  have HR : Hid (RE.bothL l = if (RE.joinL 6 RE.andS l).any (fun r => r.op == 0) then RE.nothing else RE.bothOf (RE.joinL 6 RE.andS l)) := rfl
  have hjl := RE.len_sizes (RE.joinL 6 RE.andS l)
  clear hl hnf
  generalize RE.bothL l = R at *
  generalize RE.joinL 6 RE.andS l = F at *
  go_enter Tryz.func123, Tryz.ntmps123
  go_wp2_with fail
  refine HJ.out.mono ?_
  rintro e w1 ⟨v1, bs, rfl, hO⟩
  obtain ⟨kp1, cap1, rfl, hrow, _⟩ := hO.row
  go_wp2_with fail
  go_loopw [4, 11] (fun v i wr => ThenAt w1 F v i wr) (fun _ i _ => F.length - (intOf i).toNat)
  case atStart => exact ⟨0, by omega, rfl, rfl, rfl, fun j hj => by omega⟩
  case round =>
    obtain ⟨k, hk, rfl, rfl, rfl, hno⟩ := hrel
    by_cases hlt : k < F.length
    · obtain ⟨hbl, hkids⟩ := hO.are.is
      rcases hrow with h0 | ⟨kb, ko, rfl, hrw⟩
      · rw [h0] at hbl; simp at hbl; omega
      have hptr : wr.cell? ⟨kb, ko + k, none⟩ = some (.pointer (some ⟨bs.getD k 0, 0, none⟩)) := hrw k (by omega)
      have hkid := hkids k hlt
      obtain ⟨hop, hnl, _⟩ := re_cells hkid
      have HNA : Hid (RE.nullAll (F.take (k + 1)) = (RE.nullAll (F.take k) && (F.getD k RE.nothing).null)) := by
        show _ = _
        rw [RE.take_snoc F k hlt, RE.nullAll_snoc]
      have HZK : Hid ((F.getD k RE.nothing).op = 0 → R = RE.nothing) := fun h0 => by
        rw [HR.out, if_pos]
        exact List.any_eq_true.2 ⟨_, List.getElem_mem hlt, by simpa [List.getD, hlt] using h0⟩
      have HNO := Lib.hid hno
      have HRW := Lib.hid hrw
      have HOW := Lib.hid hO
      clear hkid hkids hbl hno hrw hO
      generalize bs.getD k 0 = bk at *
      by_cases h0 : (F.getD k RE.nothing).op = 0
      · have hT := Lib.hid (HZK.out h0)
        rw [h0] at hop
        go_wp2_with fail
        refine (Nothing_any _).mono ?_
        rintro e w2 ⟨b, rfl, h1, h2⟩
        go_wp2_with fail
        go_ret
        exact ⟨b, rfl, by rw [hT.out]; exact h1.is, ext_step HOW.out.bel h2⟩
      · have HNO' : Hid (∀ j, j < k + 1 → (F.getD j RE.nothing).op ≠ 0) := fun j hj => if h : j < k then HNO.out j h else by rw [show j = k by omega]; exact h0
        have h0' : (((F.getD k RE.nothing).op : Int) == 0) = false := by
          rw [beq_eq_false_iff_ne]; omega
        generalize hq : RE.nullAll (F.take k) = q at *
        clear hq
        generalize (F.getD k RE.nothing).null = nl at *
        generalize (F.getD k RE.nothing).op = o at *
        clear h0
        cases q with
        | false =>
          go_wp2_with fail
          go_roundw
          case rel => exact ⟨k + 1, by omega, by go_num, by rw [HNA.out]; rfl, rfl, HNO'.out⟩
          case measure => simp [intOf]; omega
        | true =>
          go_wp2_with fail
          go_roundw
          case rel => exact ⟨k + 1, by omega, by go_num, by rw [HNA.out]; rfl, rfl, HNO'.out⟩
          case measure => simp [intOf]; omega
    · obtain rfl : k = F.length := by omega
      rw [List.take_length]
      have HT : Hid (R = RE.bothOf F) := by
        show _ = _
        rw [HR.out, if_neg]
        intro ha
        obtain ⟨r, hr, hr0⟩ := List.any_eq_true.1 ha
        obtain ⟨j, hj, rfl⟩ := List.mem_iff_getElem.1 hr
        exact hno j hj (by simpa [List.getD, hj] using hr0)
      by_cases h0 : F.length = 0
      · have HT2 : Hid (R = RE.many (some (RE.one BS.all))) := by
          show _ = _
          rw [HT.out, List.length_eq_zero_iff.1 h0]; rfl
        rw [h0]
        have HB := Lib.hid hO.bel
        clear hO hrow hno
        go_wp2_with fail
        refine (All_any _).mono ?_
        rintro e w2 ⟨rfl, hb2⟩
        go_wp2_with fail
        refine (One_any fullW fullW fullW fullW _).mono ?_
        rintro e w3 ⟨b, rfl, h1, h2⟩
        have HMA := Lib.hid (Many_any (ptr b) (some (RE.one BS.all)) w3 ⟨b, rfl, h1.is⟩ (by have : RE.sizeO (some (RE.one BS.all)) = 1 := RE.one_size _; omega))
        have hB := ext_step (ext_step HB.out hb2) h2
        go_wp2_with fail
        refine HMA.out.mono ?_
        rintro e w4 ⟨b', rfl, h3, h4⟩
        go_wp2_with fail
        go_ret
        exact ⟨b', rfl, by rw [HT2.out]; exact h3, ext_step hB h4⟩
      · rcases hrow with h1 | ⟨kb, ko, rfl, hrw⟩
        · have := hO.are.1; rw [h1] at this; simp at this; omega
        by_cases h1 : F.length = 1
        · match F, h1 with
          | [x], _ =>
          have HT2 : Hid (R = x) := by show _ = _; rw [HT.out]; rfl
          obtain ⟨b0, hptr, hp⟩ := head_of hO hrw
          have HP := Lib.hid hp
          clear hp hO hrw hno
          go_wp2_with fail
          go_ret
          rw [HT2.out]
          exact HP.out
        · have HT2 : Hid (R = RE.node 6 BS.none F) := by
            show _ = _
            rw [HT.out]
            match F, h0, h1 with
            | x :: y :: z, _, _ => rfl
          have HM := Lib.hid (made_zero 6 (by omega) (by omega) (RE.nullAll F) (some ⟨kb, ko, none⟩) cap1 bs F wr (.inr ⟨kb, ko, rfl, hrw⟩) hO.are.is (by simp [RE.null]) (by omega))
          have h0' : ((F.length : Int) == 0) = false := by rw [beq_eq_false_iff_ne]; omega
          have h1' : ((F.length : Int) == 1) = false := by rw [beq_eq_false_iff_ne]; omega
          have HOW := Lib.hid hO
          have HRW := Lib.hid hrw
          clear hO hrw h0 h1 hno
          go_wp2_with fail
          refine HM.out.mono ?_
          rintro e w3 ⟨b, rfl, h3, h4, h5⟩
          go_wp2_with fail
          go_ret
          rw [HT2.out]
          exact node_of HOW.out (.inr ⟨kb, ko, rfl, HRW.out⟩) h4 h5
set_option maxRecDepth 100000 in
set_option maxHeartbeats 4000000 in
theorem Then_any (kp : Option Addr) (cap : Nat) (l : List (Option RE)) (w : World) (hl : ListO w kp l) (hnf : RE.nfO l) (hsz : RE.sizes (RE.flat 3 l) ≤ 1099511627775) (hln : l.length ≤ 1099511627776) :
    Calls Tryz.prog 18 #[.slice kp l.length cap] w (RePost w (RE.thenL l)) := by
  have hlen := RE.len_sizes (RE.flat 3 l)
  have HF := Lib.hid (flat_any 3 kp cap l w hl (RE.flat_ne (by omega) hnf) (by omega) hln)
  have HR : Hid (RE.thenL l = if ((RE.flat 3 l).filter fun r => !(r.op == 1)).any (fun r => r.op == 0) then RE.nothing else RE.seqL ((RE.flat 3 l).filter fun r => !(r.op == 1))) := rfl
  clear hl hnf
  generalize RE.thenL l = R at *
  generalize RE.flat 3 l = J at *
  have hfs := RE.sizes_filter J (fun r => !(r.op == 1))
  have hfl := RE.len_sizes (J.filter fun r => !(r.op == 1))
  go_enter Tryz.func18, Tryz.ntmps18
  go_wp2_with fail
  refine HF.out.mono ?_
  rintro e w0 ⟨v0, bs0, rfl, hO0⟩
  have HD := Lib.hid (Del_own 62 (fun r => r.op == 1) isEps (enters_of Tryz.func62 (by kernel_rfl) rfl) v0 bs0 J w w0 hO0 (by omega))
  clear hO0
  generalize (J.filter fun r => !(r.op == 1)) = F at *
  go_wp2_with fail
  refine HD.out.mono ?_
  rintro e w1 ⟨v1, bs, rfl, hO⟩
  obtain ⟨kp1, cap1, rfl, hrow, _⟩ := hO.row
  go_wp2_with fail
  go_loopw [4, 12] (fun v i wr => ThenAt w1 F v i wr) (fun _ i _ => F.length - (intOf i).toNat)
  case atStart => exact ⟨0, by omega, rfl, rfl, rfl, fun j hj => by omega⟩
  case round =>
    obtain ⟨k, hk, rfl, rfl, rfl, hno⟩ := hrel
    by_cases hlt : k < F.length
    · obtain ⟨hbl, hkids⟩ := hO.are.is
      rcases hrow with h0 | ⟨kb, ko, rfl, hrw⟩
      · rw [h0] at hbl; simp at hbl; omega
      have hptr : wr.cell? ⟨kb, ko + k, none⟩ = some (.pointer (some ⟨bs.getD k 0, 0, none⟩)) := hrw k (by omega)
      have hkid := hkids k hlt
      obtain ⟨hop, hnl, _⟩ := re_cells hkid
      have HNA : Hid (RE.nullAll (F.take (k + 1)) = (RE.nullAll (F.take k) && (F.getD k RE.nothing).null)) := by
        show _ = _
        rw [RE.take_snoc F k hlt, RE.nullAll_snoc]
      have HZK : Hid ((F.getD k RE.nothing).op = 0 → R = RE.nothing) := fun h0 => by
        rw [HR.out, if_pos]
        exact List.any_eq_true.2 ⟨_, List.getElem_mem hlt, by simpa [List.getD, hlt] using h0⟩
      have HNO := Lib.hid hno
      have HRW := Lib.hid hrw
      have HOW := Lib.hid hO
      clear hkid hkids hbl hno hrw hO
      generalize bs.getD k 0 = bk at *
      by_cases h0 : (F.getD k RE.nothing).op = 0
      · have hT := Lib.hid (HZK.out h0)
        rw [h0] at hop
        go_wp2_with fail
        refine (Nothing_any _).mono ?_
        rintro e w2 ⟨b, rfl, h1, h2⟩
        go_wp2_with fail
        go_ret
        exact ⟨b, rfl, by rw [hT.out]; exact h1.is, ext_step HOW.out.bel h2⟩
      · have HNO' : Hid (∀ j, j < k + 1 → (F.getD j RE.nothing).op ≠ 0) := fun j hj => if h : j < k then HNO.out j h else by rw [show j = k by omega]; exact h0
        have h0' : (((F.getD k RE.nothing).op : Int) == 0) = false := by
          rw [beq_eq_false_iff_ne]; omega
        generalize hq : RE.nullAll (F.take k) = q at *
        clear hq
        generalize (F.getD k RE.nothing).null = nl at *
        generalize (F.getD k RE.nothing).op = o at *
        clear h0
        cases q with
        | false =>
          go_wp2_with fail
          go_roundw
          case rel => exact ⟨k + 1, by omega, by go_num, by rw [HNA.out]; rfl, rfl, HNO'.out⟩
          case measure => simp [intOf]; omega
        | true =>
          go_wp2_with fail
          go_roundw
          case rel => exact ⟨k + 1, by omega, by go_num, by rw [HNA.out]; rfl, rfl, HNO'.out⟩
          case measure => simp [intOf]; omega
    · obtain rfl : k = F.length := by omega
      rw [List.take_length]
      have HT : Hid (R = RE.seqL F) := by
        show _ = _
        rw [HR.out, if_neg]
        intro ha
        obtain ⟨r, hr, hr0⟩ := List.any_eq_true.1 ha
        obtain ⟨j, hj, rfl⟩ := List.mem_iff_getElem.1 hr
        exact hno j hj (by simpa [List.getD, hj] using hr0)
      by_cases h0 : F.length = 0
      · have HT2 : Hid (R = RE.empty) := by
          show _ = _
          rw [HT.out, List.length_eq_zero_iff.1 h0]; rfl
        rw [h0]
        have HB := Lib.hid hO.bel
        clear hO hrow hno
        go_wp2_with fail
        refine (EmptyRe_any _).mono ?_
        rintro e w3 ⟨b, rfl, h1, h2⟩
        go_wp2_with fail
        go_ret
        exact ⟨b, rfl, by rw [HT2.out]; exact h1.is, ext_step HB.out h2⟩
      · rcases hrow with h1 | ⟨kb, ko, rfl, hrw⟩
        · have := hO.are.1; rw [h1] at this; simp at this; omega
        by_cases h1 : F.length = 1
        · match F, h1 with
          | [x], _ =>
          have HT2 : Hid (R = x) := by show _ = _; rw [HT.out]; rfl
          obtain ⟨b0, hptr, hp⟩ := head_of hO hrw
          have HP := Lib.hid hp
          clear hp hO hrw hno
          go_wp2_with fail
          go_ret
          rw [HT2.out]
          exact HP.out
        · have HT2 : Hid (R = RE.node 3 BS.none F) := by
            show _ = _
            rw [HT.out]
            match F, h0, h1 with
            | x :: y :: z, _, _ => rfl
          have HM := Lib.hid (made_zero 3 (by omega) (by omega) (RE.nullAll F) (some ⟨kb, ko, none⟩) cap1 bs F wr (.inr ⟨kb, ko, rfl, hrw⟩) hO.are.is (by simp [RE.null]) (by omega))
          have h0' : ((F.length : Int) == 0) = false := by rw [beq_eq_false_iff_ne]; omega
          have h1' : ((F.length : Int) == 1) = false := by rw [beq_eq_false_iff_ne]; omega
          have HOW := Lib.hid hO
          have HRW := Lib.hid hrw
          clear hO hrw h0 h1 hno
          go_wp2_with fail
          refine HM.out.mono ?_
          rintro e w3 ⟨b, rfl, h3, h4, h5⟩
          go_wp2_with fail
          go_ret
          rw [HT2.out]
          exact node_of HOW.out (.inr ⟨kb, ko, rfl, HRW.out⟩) h4 h5
end Go.Proofs.YtgamknphlmcgnaaGreatDoor
end
