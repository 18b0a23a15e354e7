/-
  'made', walked through the program: a node, and what is known of it. Expressions as they are written, walked through the program. What is written is read, plain: an expression within another one, and the whole. The lexer, plain.
-/
import Derived.Deep.AppendLies
import Derived.Deep.WholeRow
import Derived.Test.YtgamknphlmcgnaaGreatDoorZrA
import Derived.Test.YtgamknphlmcgnaaGreatDoorZrB
import Derived.Test.YtgamknphlmcgnaaGreatDoorZrC
section
set_option linter.unusedSimpArgs false
set_option linter.unusedVariables false
set_option maxRecDepth 100000
set_option linter.unnecessarySimpa false
namespace Go.Proofs.YtgamknphlmcgnaaGreatDoor
open Go.RowKit
theorem re_grownBy {W W' : World} (hb : Below W.heap.size W W') : W.grownBy W' none := ⟨hb.os, hb.tape, hb.output, hb.size, fun k hk _ => hb.block k hk⟩
theorem re_alloc (W : World) (o : Obj) : Below W.heap.size W (W.alloc o) := ext_alloc (Below.refl _ W) o
theorem infoStr : (Tryz.prog.info? 9).map (fun i => (i.zero, i.size, i.bytes)) = some (some (.string ⟨#[]⟩), 1, 16) := by kernel_rfl
def strV (l : List UInt8) : Value := .string ⟨l.toArray⟩
theorem strV_one (l : List (List UInt8)) : ∀ u ∈ l.map strV, u.oneCell' = true := by intro u hu; obtain ⟨x, _, rfl⟩ := List.mem_map.1 hu; rfl
/-- the cells of a node that is being made -/
def nodeOf (o : Nat) (s : BS) (kp : Option Addr) (n cap : Nat) (nl : Bool) (key : List UInt8) (sz : Nat) : Array Value :=
  #[.int .i64 o, .int .u64 (wN s.a), .int .u64 (wN s.b), .int .u64 (wN s.c), .int .u64 (wN s.d), .slice kp n cap, .bool nl, .string ⟨key.toArray⟩, .int .i64 sz]
/-- between two rounds: the parts so far, and the node so far -/
structure MadeW (w : World) (N o : Nat) (s : BS) (kp : Option Addr) (n cap : Nat) (nl : Bool) (ps : List (List UInt8)) (sz : Nat) (v : Value) (wr : World) : Prop where
  own : wr.ownsRow w.heap.size 9 1 v ps.length (ps.map strV)
  ne : v.ownBlock ≠ some N
  node : wr.heap[N]? = some (.cells (nodeOf o s kp n cap nl [] sz) 117 (0, 0))
  bel : Below w.heap.size w wr
  lo : w.heap.size ≤ N
theorem MadeW.lt {w wr : World} {N o : Nat} {s : BS} {kp : Option Addr} {n cap : Nat} {nl : Bool} {ps : List (List UInt8)} {sz : Nat} {v : Value} (h : MadeW w N o s kp n cap nl ps sz v wr) : N < wr.heap.size := (Array.getElem?_eq_some_iff.1 h.node).1
theorem MadeW.later {w wr wr' : World} {N o : Nat} {s : BS} {kp : Option Addr} {n cap : Nat} {nl : Bool} {ps : List (List UInt8)} {sz : Nat} {v : Value} (h : MadeW w N o s kp n cap nl ps sz v wr) (hb : Below wr.heap.size wr wr') : MadeW w N o s kp n cap nl ps sz v wr' :=
  ⟨h.own.kept (re_grownBy hb) (by cases v.ownBlock <;> simp), h.ne, by rw [hb.block _ h.lt]; exact h.node, ext_step h.bel hb, h.lo⟩
theorem MadeW.appended {w wr Wa W' : World} {N o : Nat} {s : BS} {kp : Option Addr} {n cap : Nat} {nl : Bool} {ps : List (List UInt8)} {sz : Nat} {v : Value} {k : List UInt8} {g cp H : Nat} (h : MadeW w N o s kp n cap nl ps sz v wr) (hb : Below wr.heap.size wr Wa) (hH : wr.heap.size ≤ H)
   (hown : W'.ownsRow w.heap.size 9 1 (.slice (some ⟨g, 0, none⟩) (ps.length + 1) cp) (ps.length + 1) (ps.map strV ++ [strV k])) (hg : Wa.grownBy W' v.ownBlock) (hat : v.ownBlock = some g ∨ g = H) :
    MadeW w N o s kp n cap nl (ps ++ [k]) sz (.slice (some ⟨g, 0, none⟩) (ps.length + 1) cp) W' := by
  have hW := h.later hb
  have h1 := h.lt
  refine ⟨by rw [List.length_append, List.map_append]; exact hown, ?_, ?_, hW.bel.grown hg hW.bel.size (fun k e => (h.own.lt k e).1), h.lo⟩
  · simp only [Value.ownBlock, ne_eq, Option.map_some, Option.some.injEq]
    rcases hat with e | e
    · intro e'; exact h.ne (by rw [e]; simpa using e')
    · intro e'; have : g = N := by simpa using e'
      omega
  · rw [hg.block N hW.lt (fun e => h.ne e.symm)]; exact hW.node
theorem MadeW.setSize {w wr : World} {N o : Nat} {s : BS} {kp : Option Addr} {n cap : Nat} {nl : Bool} {ps : List (List UInt8)} {sz sz' : Nat} {v : Value} (h : MadeW w N o s kp n cap nl ps sz v wr) : MadeW w N o s kp n cap nl ps sz' v (wr.setCell ⟨N, 8, none⟩ (.int .i64 (sz' : Nat))) := by
  have hg : wr.grownBy (wr.setCell ⟨N, 8, none⟩ (.int .i64 (sz' : Nat))) (some N) := ⟨rfl, rfl, rfl, by simp, fun k hk hne => Below.heap_setCell _ _ _ _ (fun e => hne (by rw [e]))⟩
  refine ⟨h.own.kept hg (.inr h.ne), h.ne, ?_, h.bel.setCell h.lo _, h.lo⟩
  rw [heap_setCell_same _ _ _ _ _ _ h.node]; rfl
def MadeAt (w : World) (N o : Nat) (s : BS) (kp : Option Addr) (ks : List RE) (cap : Nat) (nl : Bool) (v i : Value) (wr : World) : Prop :=
  ∃ k : Nat, k ≤ ks.length ∧ i = .int .i64 k ∧ MadeW w N o s kp ks.length cap nl (RE.parts o s (RE.keys (ks.take k))) (1 + RE.sizes (ks.take k)) v wr
set_option maxRecDepth 100000 in
set_option maxHeartbeats 4000000 in
theorem made_other (o : Nat) (ho : o < 8) (ho2 : o ≠ 2) (s0 s1 s2 s3 : BitVec 64) (nl : Bool) (kp : Option Addr) (cap : Nat) (bs : List Nat) (ks : List RE) (w : World) (hr : PtrsAt w kp bs) (hk : AreRe w bs ks) (hnl : nl = (RE.node o ⟨s0, s1, s2, s3⟩ ks).null) (hsz : RE.sizes ks ≤ 1099511627776) :
    Calls Tryz.prog 59 #[.int .i64 o, .agg #[.int .u64 (wN s0), .int .u64 (wN s1), .int .u64 (wN s2), .int .u64 (wN s3)], .bool nl, .slice kp ks.length cap] w fun e w' => ∃ b, e = .returned (ptr b) ∧ w.heap.size ≤ b ∧ w'.heap[b]? = some (.cells (nodeCells (RE.node o ⟨s0, s1, s2, s3⟩ ks) kp cap) 117 (0, 0)) ∧ Below w.heap.size w w' := by
  have HR := Lib.hid hr
  have HK := Lib.hid hk
  have HNL := Lib.hid hnl
  clear hr hk hnl
  obtain ⟨i0, hi, hz0, hz1, hz2⟩ := info_parts infoStr
  have HI := Lib.hid hi; have HZ0 := Lib.hid hz0; have HZ1 := Lib.hid hz1; have HZ2 := Lib.hid hz2
  clear hi hz0 hz1 hz2
  have hls := RE.len_sizes ks
  have ho2' : ¬ (o : Int) = 2 := by omega
  have hob : ((o : Int) == 2) = false := by simpa using ho2'
  obtain ⟨d, hd⟩ : ∃ d : UInt8, d = (48 + o).toUInt8 := ⟨_, rfl⟩
  have hIt := Itoa_op o ho
  rw [← hd] at hIt
  have HIT := Lib.hid hIt
  have HD := Lib.hid hd
  clear hIt hd
  go_enter Tryz.func59, Tryz.ntmps59
  go_wp2_with (go_at_call 107; refine (HIT.out _).mono ?_; rintro e w' ⟨rfl, rfl⟩)
  go_loopw [10, 38] (fun v i wr => MadeAt w (w.heap.size + 1) o ⟨s0, s1, s2, s3⟩ kp ks cap nl v i wr) (fun _ i _ => ks.length - (intOf i).toNat)
  case atStart =>
    refine ⟨0, by omega, rfl, ?_, ?_, ?_, ?_, by omega⟩
    · have hp : RE.parts o ⟨s0, s1, s2, s3⟩ (RE.keys (ks.take 0)) = [[d]] := by rw [HD.out]; simp [RE.parts, RE.keys, ho2]
      rw [hp]
      have hl := World.ownsRow_lit (base := w.heap.size) (e := 9) (size := 1) ((w.alloc (.cells #[.int .u64 (wN s0), .int .u64 (wN s1), .int .u64 (wN s2), .int .u64 (wN s3)] 109)).alloc (.cells (nodeOf o ⟨s0, s1, s2, s3⟩ kp ks.length cap nl [] 1) 117)) #[strV [d]] 1 (by simp; omega) (by unfold maxLen; omega) rfl
      rw [World.size_alloc, World.size_alloc] at hl
      exact hl
    · simp [Value.ownBlock]
    · refine ((re_alloc _ _).block (w.heap.size + 1) ?_).trans (heap_alloc2_new w _ _)
      simp
    · repeat (first | exact Below.refl _ _ | assumption | refine Below.drew ?_ | refine ext_drewN ?_ _ | refine ext_alloc ?_ _ | refine Below.setCell ?_ (by (try simp only [World.size_alloc, World.size_setCell, World.size_drew]); omega) _ | refine ext_step ?_ (by assumption))
  case round =>
    obtain ⟨k, hk, rfl, hW⟩ := hrel
    by_cases hlt : k < ks.length
    · obtain ⟨hbl, hkids⟩ := HK.out
      rcases HR.out with h0 | ⟨kb, ko, rfl, hrow⟩
      · rw [h0] at hbl; simp at hbl; omega
      have hptr : w.cell? ⟨kb, ko + k, none⟩ = some (.pointer (some ⟨bs.getD k 0, 0, none⟩)) := hrow k (by omega)
      have hkbl := World.block_lt_of_cell? w _ hptr
      rw [← hW.bel.cell (p := ⟨kb, ko + k, none⟩) hkbl] at hptr
      have hkid := hkids k hlt
      have HPS : Hid (RE.parts o ⟨s0, s1, s2, s3⟩ (RE.keys (ks.take (k + 1))) = RE.parts o ⟨s0, s1, s2, s3⟩ (RE.keys (ks.take k)) ++ [(ks.getD k RE.nothing).key]) := by
        show _ = _
        rw [RE.take_snoc ks k hlt, RE.keys_append, ← RE.parts_snoc]; rfl
      have HSZ : Hid (1 + RE.sizes (ks.take (k + 1)) = 1 + RE.sizes (ks.take k) + (ks.getD k RE.nothing).size) := by
        show _ = _
        rw [RE.take_snoc ks k hlt, RE.sizes_append]; simp [RE.sizes]; omega
      have hsz1 := RE.sizes_take ks (k + 1)
      have hpl : (RE.parts o ⟨s0, s1, s2, s3⟩ (RE.keys (ks.take k))).length ≤ 5 + ks.length := by
        simp [RE.parts, ho2, RE.keys_map]; omega
      have hsz2 := HSZ.out
      generalize RE.parts o ⟨s0, s1, s2, s3⟩ (RE.keys (ks.take k)) = ps at *
      generalize 1 + RE.sizes (ks.take k) = sz at *
      generalize ks.getD k RE.nothing = r at *
      generalize bs.getD k 0 = b at *
      obtain ⟨kp1, cap1, bs1, hnode, _, _⟩ := hkid.open
      have hbk := hkid.lt
      have hnode1 := (hW.bel.block b hbk).trans hnode
      have hkey : wr.cell? ⟨b, 7, none⟩ = some (.string ⟨r.key.toArray⟩) := by rw [cell_of_row _ _ _ _ _ _ hnode1]; rfl
      have hksz : wr.cell? ⟨b, 8, none⟩ = some (.int .i64 (r.size : Nat)) := by rw [cell_of_row _ _ _ _ _ _ hnode1]; rfl
      have hnsz : wr.cell? ⟨w.heap.size + 1, 8, none⟩ = some (.int .i64 (sz : Nat)) := by rw [cell_of_row _ _ _ _ _ _ hW.node]; rfl
      clear hsz2 hnode hnode1 hkid hkids hrow
      go_wp2_with (at_builtin; refine wpList_append_lies _ rfl _ _ _ rfl w.heap.size 9 i0 _ 1 16 Tryz.underlying50 HI.out HZ0.out HZ1.out HZ2.out rfl (by omega) u10 ps.length (ps.map strV) rfl (hW.own.alloc _) ⟨wr.heap.size, 0, none⟩ 1 1 [strV r.key] rfl rfl (World.news_of_block (cs := #[strV r.key]) (t := 9) (fr := (0, 0)) (heap_alloc_last wr _)) (strV_one [r.key]) (by omega) (by unfold maxLen; omega) (by omega) (by have := hW.bel.size; simp; omega) (wr.heap.size + 1) (by simp) ?_; intro g5 cp5 W9 hown9 hg9 hat9 hlt9)
      have hW9 := hW.appended (re_alloc wr _) (by omega) hown9 hg9 hat9
      have hb9 : W9.heap[b]? = wr.heap[b]? := by
        have h1 := hW.bel.size
        rw [hg9.block b (by simp; omega) (fun e => by have := (hW.own.lt b e.symm).1; omega), Below.heap_alloc _ _ _ (by omega)]
      obtain ⟨S, hS⟩ : ∃ S : World → Prop, ∀ W', S W' ↔ (W'.cell? ⟨w.heap.size + 1, 8, none⟩ = some (.int .i64 (sz : Nat)) ∧ W'.cell? ⟨b, 8, none⟩ = some (.int .i64 (r.size : Nat))) := ⟨_, fun _ => Iff.rfl⟩
      have HS := Lib.hid hS
      clear hS
      have cs : ∀ p : InC S, p.w.cell? ⟨w.heap.size + 1, 8, none⟩ = some (.int .i64 (sz : Nat)) ∧ p.w.cell? ⟨b, 8, none⟩ = some (.int .i64 (r.size : Nat)) := fun p => (HS.out p.w).1 p.h
      have hS0 : S W9.drew := (HS.out _).2 ⟨by show W9.cell? _ = _; rw [cell_of_row _ _ _ _ _ _ hW9.node]; rfl, by show W9.cell? _ = _; rw [World.cell?_of_block (w := wr) (a := ⟨b, 8, none⟩) hb9]; exact hksz⟩
      have hne : Nonempty (InC S) := ⟨⟨_, hS0⟩⟩
      clear hown9 hg9 hat9 hb9 hW hptr hkey hksz hnsz
      have hszr : sz + r.size ≤ 1099511627777 := by have := HSZ.out; omega
      have hfr : W9.frozen? ⟨w.heap.size + 1, 8, none⟩ = false := frozen_of_row _ _ _ _ _ hW9.node
      have hcc : W9.cell? ⟨w.heap.size + 1, 8, none⟩ = some (.int .i64 (sz : Nat)) := by rw [cell_of_row _ _ _ _ _ _ hW9.node]; rfl
      refine wp_region_mix S [0, 1, 2, 3, 4, 5, 6, 7, 8, 9, 10] [0, 1, 2, 3, 4, 5, 6, 7, 8, 9, 10, 11] (by kernel_rfl) (by kernel_rfl) hS0 ?_
      (repeat (refine wpMix_read rfl rfl ?_; go_big_quiet_step (fail); refine wpQuiet_nil ?_))
      refine wpMix_eff (k := false) rfl rfl (by kernel_rfl) ?_
      go_wp2_with fail
      refine mixPost_last (wpMix_nil ?_)
      have hW10 := (hW9.setSize (sz' := sz + r.size)).later (Below.refl _ _).drew
      rw [Int.natCast_add, ← HPS.out, ← HSZ.out] at hW10
      have HW10 := Lib.hid hW10
      clear hW10 hW9 hS0 hne cs hfr hcc
      go_wp2
      go_roundw
      case rel => exact ⟨k + 1, by omega, by go_num, HW10.out⟩
      case measure => simp [intOf]; omega
    · obtain rfl : k = ks.length := by omega
      rw [List.take_length] at hW
      have hjl := RE.join_len o ⟨s0, s1, s2, s3⟩ ks
      have hpn : 0 < (RE.parts o ⟨s0, s1, s2, s3⟩ (RE.keys ks)).length := by simp [RE.parts]
      have HKEY : Hid ((RE.node o ⟨s0, s1, s2, s3⟩ ks).key = [40] ++ Lib.join (RE.parts o ⟨s0, s1, s2, s3⟩ (RE.keys ks)) [32] ++ [41]) := by show _ = _; rw [RE.key]
      have hpl : (RE.parts o ⟨s0, s1, s2, s3⟩ (RE.keys ks)).length ≤ 5 + ks.length := by
        simp [RE.parts, ho2, RE.keys_map]; omega
      have HN : Hid (1 + RE.sizes ks = (RE.node o ⟨s0, s1, s2, s3⟩ ks).size) := by show _ = _; rw [RE.size]
      have hszn : 1 + RE.sizes ks ≤ 1099511627777 := by omega
      generalize RE.parts o ⟨s0, s1, s2, s3⟩ (RE.keys ks) = ps at *
      rcases hW.own.2 with ⟨_, h0⟩ | ⟨g, cp, cur, rfl, hgB, hgb, hnc, _, _, _⟩
      · omega
      have hJ := Join_any g 0 cp (ps.map fun l => ⟨l.toArray⟩) ⟨#[32]⟩ wr (fun j x hx => by
        rw [Nat.zero_add, hW.own.cellAt j (by have := (List.getElem?_eq_some_iff.1 hx).1; simpa using this)]
        simp at hx ⊢
        obtain ⟨y, h1, h2⟩ := hx
        exact ⟨y, h1, by rw [← h2]; rfl⟩) (Array.getElem?_eq_some_iff.1 hgb).1 (by simp; omega) (by simpa using hnc) (by simp [Function.comp_def]; omega)
      simp only [List.length_map, List.map_map, Function.comp_def, List.map_id'] at hJ
      generalize Lib.join ps [32] = jo at *
      have HJ := Lib.hid hJ
      clear hJ
      go_wp2_with fail
      refine HJ.out.mono ?_
      rintro e w1 ⟨rfl, hb1⟩
      have hW1 := hW.later hb1
      have hfr : w1.frozen? ⟨w.heap.size + 1, 7, none⟩ = false := frozen_of_row _ _ _ _ _ hW1.node
      have hcc : w1.cell? ⟨w.heap.size + 1, 7, none⟩ = some (.string ⟨#[]⟩) := by rw [cell_of_row _ _ _ _ _ _ hW1.node]; rfl
      go_wp2_with fail
      go_ret
      refine ⟨w.heap.size + 1, rfl, by omega, ?_, hW1.bel.setCell hW1.lo _⟩
      · rw [heap_setCell_same _ _ _ _ _ _ hW1.node]
        rw [show (⟨#[40]⟩ ++ ⟨jo.toArray⟩ ++ ⟨#[41]⟩ : ByteArray) = ⟨(RE.node o ⟨s0, s1, s2, s3⟩ ks).key.toArray⟩ by rw [HKEY.out]; exact ByteArray.ext (by simp)]
        unfold nodeCells
        rw [← HN.out, ← HNL.out]
        rfl
theorem FmtWord_any (x : BitVec 64) (w : World) : Calls Tryz.prog 108 #[.int .u64 (wN x), .int .i64 36] w fun e w' => e = .returned (.string ⟨(fmt36 x.toNat).toArray⟩) ∧ Below w.heap.size w w' := FormatUint_any x.toNat x.isLt w
def wordAt (s : BS) (k : Nat) : BitVec 64 := if k = 0 then s.a else if k = 1 then s.b else if k = 2 then s.c else s.d
theorem idxWord (s0 s1 s2 s3 : BitVec 64) (k : Nat) (h : k < 4) (w : World) : (Instr.index 109 (.agg #[.int .u64 (wN s0), .int .u64 (wN s1), .int .u64 (wN s2), .int .u64 (wN s3)]) (.int .i64 (k : Int))).run Tryz.prog w = .ok (.int .u64 (wN (wordAt ⟨s0, s1, s2, s3⟩ k))) w := by
  have i0 : ∀ w, (Instr.index 109 (.agg #[.int .u64 (wN s0), .int .u64 (wN s1), .int .u64 (wN s2), .int .u64 (wN s3)]) (.int .i64 0)).run Tryz.prog w = .ok (.int .u64 (wN s0)) w := fun _ => by kernel_rfl
  have i1 : ∀ w, (Instr.index 109 (.agg #[.int .u64 (wN s0), .int .u64 (wN s1), .int .u64 (wN s2), .int .u64 (wN s3)]) (.int .i64 1)).run Tryz.prog w = .ok (.int .u64 (wN s1)) w := fun _ => by kernel_rfl
  have i2 : ∀ w, (Instr.index 109 (.agg #[.int .u64 (wN s0), .int .u64 (wN s1), .int .u64 (wN s2), .int .u64 (wN s3)]) (.int .i64 2)).run Tryz.prog w = .ok (.int .u64 (wN s2)) w := fun _ => by kernel_rfl
  have i3 : ∀ w, (Instr.index 109 (.agg #[.int .u64 (wN s0), .int .u64 (wN s1), .int .u64 (wN s2), .int .u64 (wN s3)]) (.int .i64 3)).run Tryz.prog w = .ok (.int .u64 (wN s3)) w := fun _ => by kernel_rfl
  match k, h with
  | 0, _ => exact i0 w
  | 1, _ => exact i1 w
  | 2, _ => exact i2 w
  | 3, _ => exact i3 w
theorem words36_take (s : BS) (k : Nat) (h : k < 4) : (RE.words36 s).take (k + 1) = (RE.words36 s).take k ++ [fmt36 (wordAt s k).toNat] := by
  match k, h with
  | 0, _ => rfl
  | 1, _ => rfl
  | 2, _ => rfl
  | 3, _ => rfl
def ClsAt (w : World) (N : Nat) (s : BS) (nl : Bool) (v i : Value) (wr : World) : Prop :=
  ∃ k : Nat, k ≤ 4 ∧ i = .int .i64 k ∧ MadeW w N 2 s none 0 0 nl ([50] :: (RE.words36 s).take k) 1 v wr
set_option maxRecDepth 100000 in
set_option maxHeartbeats 4000000 in
theorem made_class (s0 s1 s2 s3 : BitVec 64) (w : World) :
    Calls Tryz.prog 59 #[.int .i64 2, .agg #[.int .u64 (wN s0), .int .u64 (wN s1), .int .u64 (wN s2), .int .u64 (wN s3)], .bool false, .slice none 0 0] w fun e w' => ∃ b, e = .returned (ptr b) ∧ w.heap.size ≤ b ∧ w'.heap[b]? = some (.cells (nodeCells (RE.node 2 ⟨s0, s1, s2, s3⟩ []) none 0) 117 (0, 0)) ∧ Below w.heap.size w w' := by
  obtain ⟨i0, hi, hz0, hz1, hz2⟩ := info_parts infoStr
  have HI := Lib.hid hi; have HZ0 := Lib.hid hz0; have HZ1 := Lib.hid hz1; have HZ2 := Lib.hid hz2
  clear hi hz0 hz1 hz2
  have HIT := Lib.hid (Itoa_op 2 (by omega))
  go_enter Tryz.func59, Tryz.ntmps59
  go_wp2_with (go_at_call 107; refine (HIT.out _).mono ?_; rintro e w' ⟨rfl, rfl⟩)
  go_loopw [10, 27] (fun v i wr => ClsAt w (w.heap.size + 1) ⟨s0, s1, s2, s3⟩ false v i wr) (fun _ i _ => 4 - (intOf i).toNat)
  case atStart =>
    refine ⟨0, by omega, rfl, ?_, ?_, ?_, ?_, by omega⟩
    · have hl := World.ownsRow_lit (base := w.heap.size) (e := 9) (size := 1) ((w.alloc (.cells #[.int .u64 (wN s0), .int .u64 (wN s1), .int .u64 (wN s2), .int .u64 (wN s3)] 109)).alloc (.cells (nodeOf 2 ⟨s0, s1, s2, s3⟩ none 0 0 false [] 1) 117)) #[strV [50]] 1 (by simp; omega) (by unfold maxLen; omega) rfl
      rw [World.size_alloc, World.size_alloc] at hl
      exact hl
    · simp [Value.ownBlock]
    · refine ((re_alloc _ _).block (w.heap.size + 1) ?_).trans (heap_alloc2_new w _ _)
      simp
    · repeat (first | exact Below.refl _ _ | assumption | refine Below.drew ?_ | refine ext_drewN ?_ _ | refine ext_alloc ?_ _ | refine Below.setCell ?_ (by (try simp only [World.size_alloc, World.size_setCell, World.size_drew]); omega) _ | refine ext_step ?_ (by assumption))
  case round =>
    obtain ⟨k, hk, rfl, hW⟩ := hrel
    by_cases hlt : k < 4
    · have hix := idxWord s0 s1 s2 s3 k hlt
      have HF := Lib.hid (FmtWord_any (wordAt ⟨s0, s1, s2, s3⟩ k))
      have HPS : Hid ([50] :: (RE.words36 ⟨s0, s1, s2, s3⟩).take (k + 1) = ([50] :: (RE.words36 ⟨s0, s1, s2, s3⟩).take k) ++ [fmt36 (wordAt ⟨s0, s1, s2, s3⟩ k).toNat]) := by
        show _ = _
        rw [words36_take _ k hlt]; rfl
      have hpl : (([50] : List UInt8) :: (RE.words36 ⟨s0, s1, s2, s3⟩).take k).length ≤ 5 := by simp; omega
      generalize [50] :: (RE.words36 ⟨s0, s1, s2, s3⟩).take k = ps at *
      generalize wordAt ⟨s0, s1, s2, s3⟩ k = x at *
      generalize fmt36 x.toNat = f at *
      go_wp2_with (first | (go_at_call 108; refine (HF.out _).mono ?_; rintro e w1 ⟨rfl, hb1⟩) | (at_builtin; refine wpList_append_lies _ rfl _ _ _ rfl w.heap.size 9 i0 _ 1 16 Tryz.underlying50 HI.out HZ0.out HZ1.out HZ2.out rfl (by omega) u10 ps.length (ps.map strV) rfl ((hW.later hb1).own.alloc _) ⟨w1.heap.size, 0, none⟩ 1 1 [strV f] rfl rfl (World.news_of_block (cs := #[strV f]) (t := 9) (fr := (0, 0)) (heap_alloc_last w1 _)) (strV_one [f]) (by omega) (by unfold maxLen; omega) (by omega) (by have := (hW.later hb1).bel.size; simp; omega) (w1.heap.size + 1) (by simp) ?_; intro g5 cp5 W9 hown9 hg9 hat9 hlt9))
      have hW9 := (hW.later hb1).appended (re_alloc w1 _) (by omega) hown9 hg9 hat9
      rw [← HPS.out] at hW9
      go_roundw
      case rel => exact ⟨k + 1, by omega, by go_num, hW9⟩
      case measure => simp [intOf]; omega
    · obtain rfl : k = 4 := by omega
      go_wp2_with fail
      refine wp_loop_rounds 1 ?_
      rw [rounds_succ]
      have hps : [50] :: (RE.words36 ⟨s0, s1, s2, s3⟩).take 4 = RE.parts 2 ⟨s0, s1, s2, s3⟩ (RE.keys []) := rfl
      rw [hps] at hW
      have hjl := RE.join_len 2 ⟨s0, s1, s2, s3⟩ []
      have hpn : 0 < (RE.parts 2 ⟨s0, s1, s2, s3⟩ (RE.keys [])).length := by simp [RE.parts]
      have HKEY : Hid ((RE.node 2 ⟨s0, s1, s2, s3⟩ []).key = [40] ++ Lib.join (RE.parts 2 ⟨s0, s1, s2, s3⟩ (RE.keys [])) [32] ++ [41]) := by show _ = _; rw [RE.key]
      have hpl : (RE.parts 2 ⟨s0, s1, s2, s3⟩ (RE.keys [])).length ≤ 5 := by simp [RE.parts, RE.words36, RE.keys_map]
      rw [show RE.sizes [] = 0 from rfl] at hjl
      clear hps
      generalize RE.parts 2 ⟨s0, s1, s2, s3⟩ (RE.keys []) = ps at *
      rcases hW.own.2 with ⟨_, h0⟩ | ⟨g, cp, cur, rfl, hgB, hgb, hnc, _, _, _⟩
      · omega
      have hJ := Join_any g 0 cp (ps.map fun l => ⟨l.toArray⟩) ⟨#[32]⟩ wr (fun j x hx => by
        rw [Nat.zero_add, hW.own.cellAt j (by have := (List.getElem?_eq_some_iff.1 hx).1; simpa using this)]
        simp at hx ⊢
        obtain ⟨y, h1, h2⟩ := hx
        exact ⟨y, h1, by rw [← h2]; rfl⟩) (Array.getElem?_eq_some_iff.1 hgb).1 (by simp; omega) (by simpa using hnc) (by simp [Function.comp_def]; omega)
      simp only [List.length_map, List.map_map, Function.comp_def, List.map_id'] at hJ
      generalize Lib.join ps [32] = jo at *
      have HJ := Lib.hid hJ
      clear hJ
      go_wp2_with fail
      refine HJ.out.mono ?_
      rintro e w1 ⟨rfl, hb1⟩
      have hW1 := hW.later hb1
      have hfr : w1.frozen? ⟨w.heap.size + 1, 7, none⟩ = false := frozen_of_row _ _ _ _ _ hW1.node
      have hcc : w1.cell? ⟨w.heap.size + 1, 7, none⟩ = some (.string ⟨#[]⟩) := by rw [cell_of_row _ _ _ _ _ _ hW1.node]; rfl
      go_wp2_with fail
      go_ret
      refine ⟨w.heap.size + 1, rfl, by omega, ?_, hW1.bel.setCell hW1.lo _⟩
      rw [heap_setCell_same _ _ _ _ _ _ hW1.node]
      rw [show (⟨#[40]⟩ ++ ⟨jo.toArray⟩ ++ ⟨#[41]⟩ : ByteArray) = ⟨(RE.node 2 ⟨s0, s1, s2, s3⟩ []).key.toArray⟩ by rw [HKEY.out]; exact ByteArray.ext (by simp)]
      rfl
end Go.Proofs.YtgamknphlmcgnaaGreatDoor
end
section
set_option linter.unusedSimpArgs false
set_option linter.unusedVariables false
set_option maxRecDepth 100000
set_option linter.unnecessarySimpa false
namespace Go.Proofs.YtgamknphlmcgnaaGreatDoor
open Go.RowKit
theorem BS.least_lt (s : BS) : s.least < 256 := by
  unfold BS.least
  split
  · rename_i h; have := ctz_lt _ h; omega
  · split
    · rename_i h; have := ctz_lt _ h; omega
    · split
      · rename_i h; have := ctz_lt _ h; omega
      · split
        · rename_i h; have := ctz_lt _ h; omega
        · omega
namespace RE
/-- how closely an expression's parts hold together -/
def lvl (o : Nat) : Nat := if o = 4 then 0 else if o = 7 then 1 else if o = 6 then 2 else if o = 3 then 3 else if o = 5 then 4 else 5
mutual
/-- an expression as it is written -/
def ofW : RE → List UInt8
  | node o s ks => if o = 1 then [40, 41] else if o = 2 then classW s else if o = 3 then Lib.join (insW 4 ks) [] else if o = 4 then Lib.join (insW 1 ks) [124] else if o = 6 then Lib.join (insW 3 ks) [38] else if o = 7 then butW ks else if o = 5 then starW ks else [91, 93]
def insW (at_ : Nat) : List RE → List (List UInt8)
  | [] => []
  | k :: ks => (if lvl k.op < at_ then [40] ++ ofW k ++ [41] else ofW k) :: insW at_ ks
def butW : List RE → List UInt8
  | [] => []
  | [_] => []
  | a :: b :: _ => (if lvl a.op < 1 then [40] ++ ofW a ++ [41] else ofW a) ++ [45] ++ (if lvl b.op < 2 then [40] ++ ofW b ++ [41] else ofW b)
def starW : List RE → List UInt8
  | [] => []
  | a :: _ => (if lvl a.op < 5 then [40] ++ ofW a ++ [41] else ofW a) ++ [42]
end
/-- .. within one of a level -/
def inW (at_ : Nat) (r : RE) : List UInt8 := if lvl r.op < at_ then [40] ++ ofW r ++ [41] else ofW r
theorem insW_map (at_ : Nat) (l : List RE) : insW at_ l = l.map (inW at_) := by
  induction l with
  | nil => rfl
  | cons a l ih => simp [insW, ih, inW]
/-- a text may be nil, too -/
def ofO : Option RE → List UInt8
  | none => [91, 93]
  | some r => ofW r
theorem join_len_le (l : List (List UInt8)) (sep : List UInt8) : (Lib.join l sep).length ≤ (l.map fun x => x.length + sep.length).sum := by
  cases l with
  | nil => simp [Lib.join]
  | cons x r =>
    rw [Lib.join_cons]
    have : (Lib.joinTail sep r).length = (r.map fun x => x.length + sep.length).sum := by
      unfold Lib.joinTail
      induction r with
      | nil => simp
      | cons y r ih => simp at ih ⊢; omega
    simp [this]
end RE
theorem BS.runs_len (s : BS) : s.runs.length ≤ 256 := s.runsFrom_len 0
theorem classW_len (s : BS) : (classW s).length ≤ 2400 := by
  have key : ∀ t : BS, (runsW t.runs).length ≤ 2304 := fun t => by
    have h1 := runsW_len t.runs
    have h2 := t.runs_len
    omega
  unfold classW
  split
  · have := byteW_len s.least; omega
  · split
    · simp
    · unfold setW
      have h1 := key s
      have h2 := key (notS s)
      split <;> simp <;> omega
namespace RE
mutual
theorem ofW_len : (r : RE) → (ofW r).length + 3 ≤ 2404 * size r
  | node o s ks => by
    have h4 := insW_len 4 ks
    have h1 := insW_len 1 ks
    have h3 := insW_len 3 ks
    have hb := butW_len ks
    have hs := starW_len ks
    have hc := classW_len s
    have j4 := join_len_le (insW 4 ks) []
    have j1 := join_len_le (insW 1 ks) [124]
    have j3 := join_len_le (insW 3 ks) [38]
    have e : ∀ (l : List (List UInt8)) (sep : List UInt8), sep.length ≤ 1 → (l.map fun x => x.length + sep.length).sum ≤ (l.map fun x => x.length + 1).sum := by
      intro l sep h
      induction l with
      | nil => simp
      | cons x l ih => simp; omega
    have e4 := e (insW 4 ks) [] (by simp)
    have e1 := e (insW 1 ks) [124] (by simp)
    have e3 := e (insW 3 ks) [38] (by simp)
    rw [ofW, size]
    repeat' split
    all_goals (try simp only [List.length_cons, List.length_nil])
    all_goals omega
theorem insW_len (at_ : Nat) : (l : List RE) → ((insW at_ l).map fun x => x.length + 1).sum ≤ 2404 * sizes l
  | [] => by simp [insW, sizes]
  | k :: l => by
    have h1 := ofW_len k
    have h2 := insW_len at_ l
    simp only [insW, List.map_cons, List.sum_cons, sizes]
    split <;> (try simp only [List.length_append, List.length_cons, List.length_nil]) <;> omega
theorem butW_len : (l : List RE) → (butW l).length ≤ 2404 * sizes l
  | [] => by simp [butW]
  | [_] => by simp [butW]
  | a :: b :: _ => by
    have h1 := ofW_len a
    have h2 := ofW_len b
    simp only [butW, List.length_append, List.length_cons, List.length_nil, sizes]
    split <;> split <;> (try simp only [List.length_append, List.length_cons, List.length_nil]) <;> omega
theorem starW_len : (l : List RE) → (starW l).length ≤ 2404 * sizes l
  | [] => by simp [starW]
  | a :: _ => by
    have h1 := ofW_len a
    simp only [starW, List.length_append, List.length_cons, List.length_nil, sizes]
    split <;> (try simp only [List.length_append, List.length_cons, List.length_nil]) <;> omega
end
end RE
end Go.Proofs.YtgamknphlmcgnaaGreatDoor
end
section
set_option linter.unusedSimpArgs false
set_option linter.unusedVariables false
set_option maxRecDepth 100000
set_option linter.unnecessarySimpa false
namespace Go.Proofs.YtgamknphlmcgnaaGreatDoor
/-- bytes that no part begins with but a sign -/
def signsL : List UInt8 := [9, 10, 13, 32, 38, 40, 41, 42, 43, 45, 46, 63, 91, 93, 94, 124]
theorem hexd_hex : ∀ k, k < 16 → PS.isHex (hexd k) = true ∧ PS.hexV (hexd k) = k := by decide +kernel
theorem marked_esc (b : Nat) (h : b < 256) (h1 : 32 ≤ b) (h2 : b < 127) (h3 : marked b = true) : b.toUInt8 ≠ 110 ∧ b.toUInt8 ≠ 116 ∧ b.toUInt8 ≠ 120 ∧ PS.escOk b.toUInt8 = true ∧ b.toUInt8.toNat = b := by
  have key : ∀ b, b < 256 → (b < 32 ∨ 127 ≤ b ∨ marked b = false) ∨ (b.toUInt8 ≠ 110 ∧ b.toUInt8 ≠ 116 ∧ b.toUInt8 ≠ 120 ∧ PS.escOk b.toUInt8 = true ∧ b.toUInt8.toNat = b) := by decide +kernel
  rcases key b h with (h | h | h) | h
  · omega
  · omega
  · rw [h] at h3; cases h3
  · exact h
theorem plain_ok (b : Nat) (h : b < 256) (h1 : 32 ≤ b) (h2 : b < 127) (h3 : marked b = false) : b.toUInt8 ≠ 92 ∧ PS.plainBad b.toUInt8 = false ∧ b.toUInt8.toNat = b := by
  have key : ∀ b, b < 256 → (b < 32 ∨ 127 ≤ b ∨ marked b = true) ∨ (b.toUInt8 ≠ 92 ∧ PS.plainBad b.toUInt8 = false ∧ b.toUInt8.toNat = b) := by decide +kernel
  rcases key b h with (h | h | h) | h
  · omega
  · omega
  · rw [h] at h3; cases h3
  · exact h
theorem byteW_start : ∀ b, b < 256 → ∃ c l, byteW b = c :: l ∧ signsL.contains c = false := by
  have key : ∀ b, b < 256 → (match byteW b with | [] => false | c :: _ => !signsL.contains c) = true := by decide +kernel
  intro b hb
  have h := key b hb
  cases hq : byteW b with
  | nil => rw [hq] at h; cases h
  | cons c l => rw [hq] at h; exact ⟨c, l, rfl, by simpa using h⟩
namespace PS
theorem adv_zero (st : PS) : st.adv 0 = st := by cases st; simp [adv]
theorem adv_plus (st : PS) (j k : Nat) : (st.adv j).adv k = st.adv (j + k) := by unfold adv; simp [List.drop_drop, Nat.add_assoc]
theorem adv_rest {st : PS} {t z : List UInt8} (h : st.rest = t ++ z) : (st.adv t.length).rest = z := by unfold adv; simp [h]
theorem one_byteW (b : Nat) (hb : b < 256) (st : PS) (z : List UInt8) (h : st.rest = byteW b ++ z) : st.one = (st.adv (byteW b).length, b) := by
  unfold byteW at h ⊢
  split at h
  · rename_i e
    subst e
    rw [if_pos rfl]
    unfold one; rw [h]; simp
  · rename_i h10
    rw [if_neg h10]
    split at h
    · rename_i e
      subst e
      rw [if_pos rfl]
      unfold one; rw [h]; simp
    · rename_i h9
      rw [if_neg h9]
      split at h
      · rename_i hx
        rw [if_pos hx]
        obtain ⟨a1, a2⟩ := hexd_hex (b / 16) (by omega)
        obtain ⟨b1, b2⟩ := hexd_hex (b % 16) (by omega)
        unfold one; rw [h]
        simp [a1, a2, b1, b2]
        omega
      · rename_i hx
        rw [if_neg hx]
        split at h
        · rename_i hm
          rw [if_pos hm]
          obtain ⟨e1, e2, e3, e4, e5⟩ := marked_esc b hb (by omega) (by omega) hm
          unfold one; rw [h]
          simp [e1, e2, e3, e4, e5]
        · rename_i hm
          rw [if_neg hm]
          obtain ⟨e1, e2, e3⟩ := plain_ok b hb (by omega) (by omega) (by simpa using hm)
          unfold one; rw [h]
          simp [e1, e2, e3]
/-- one run read -/
theorem setStep_run' (r : Rn) (hr : r.a ≤ r.b) (st : PS) (s : BS) (y : List UInt8) (h : st.rest = runW r ++ y) (hy : y.head? ≠ some 45) : setStep st s = (st.adv (runW r).length, RE.orS s (BS.run r.a (r.b + 1 - r.a))) := by
  unfold runW at h ⊢
  rw [List.append_assoc] at h
  have h1 := one_byteW r.a r.ha st _ h
  have h2 := adv_rest h
  unfold setStep
  simp only [h1]
  by_cases hlt : r.a < r.b
  · rw [if_pos hlt] at h2 ⊢
    have h3 : ((st.adv (byteW r.a).length).adv 1).rest = byteW r.b ++ y := by
      show (st.adv (byteW r.a).length).rest.drop 1 = _
      rw [h2]; rfl
    have e : (if (st.adv (byteW r.a).length).rest.head? = some 45 then ((st.adv (byteW r.a).length).adv 1).one else (st.adv (byteW r.a).length, r.a)) = (((st.adv (byteW r.a).length).adv 1).adv (byteW r.b).length, r.b) := by
      rw [if_pos (by rw [h2]; rfl), one_byteW r.b r.hb _ _ h3]
    rw [e]
    simp only
    rw [if_neg (by omega), adv_plus, adv_plus]
    simp [fromS, Nat.add_assoc, Nat.add_comm 1]
  · rw [if_neg hlt] at h2 ⊢
    have hab : r.a = r.b := by omega
    have e : (if (st.adv (byteW r.a).length).rest.head? = some 45 then ((st.adv (byteW r.a).length).adv 1).one else (st.adv (byteW r.a).length, r.a)) = (st.adv (byteW r.a).length, r.a) := by
      rw [if_neg (by rw [h2]; exact hy)]
    rw [e]
    simp only
    rw [if_neg (by omega)]
    simp [fromS, hab]
theorem runW_start (r : Rn) : ∃ c l, runW r = c :: l ∧ signsL.contains c = false := by
  obtain ⟨c, l, h1, h2⟩ := byteW_start r.a r.ha
  unfold runW
  rw [h1]
  exact ⟨c, _, rfl, h2⟩
theorem runsW_head (l : List Rn) (z : List UInt8) : (runsW l ++ 93 :: z).head? ≠ some 45 ∧ (runsW l ++ 93 :: z).head? ≠ some 94 := by
  cases l with
  | nil => simp [runsW]
  | cons r l =>
    obtain ⟨c, t, h1, h2⟩ := runW_start r
    simp only [runsW, List.flatMap_cons, h1, List.cons_append, List.head?_cons]
    constructor
    · intro e; cases e; simp [signsL] at h2
    · intro e; cases e; simp [signsL] at h2
theorem setGo_runs (l : List Rn) (hl : ∀ r ∈ l, r.a ≤ r.b) : ∀ (f : Nat) (st : PS) (s : BS) (z : List UInt8), st.rest = runsW l ++ 93 :: z → st.e = 0 → l.length < f → setGo f st s = (st.adv (runsW l).length, l.foldl (fun s r => RE.orS s (BS.run r.a (r.b + 1 - r.a))) s) := by
  induction l with
  | nil =>
    intro f st s z h he hf
    cases f with
    | zero => omega
    | succ f =>
      rw [setGo, if_neg (by rw [h]; simp [runsW])]
      simp [runsW, adv_zero]
  | cons r l ih =>
    intro f st s z h he hf
    cases f with
    | zero => omega
    | succ f =>
      obtain ⟨c, t, h1, h2⟩ := runW_start r
      have hrw : runsW (r :: l) = runW r ++ runsW l := by simp [runsW]
      rw [hrw, List.append_assoc] at h
      have hne : st.rest.head? ≠ some 93 := by
        rw [h, h1]
        simp only [List.cons_append, List.head?_cons]
        intro e; cases e; simp [signsL] at h2
      rw [setGo, if_pos ⟨he, hne⟩, setStep_run' r (hl r (by simp)) st s _ h (runsW_head l z).1]
      simp only
      rw [ih (fun x hx => hl x (by simp [hx])) f _ _ z (adv_rest h) he (by simp at hf; omega), adv_plus, hrw]
      simp
theorem has_orS (s t : BS) (j : Nat) (hj : j < 256) : (RE.orS s t).has j = (s.has j || t.has j) := BS.has_or s t j
theorem runsFrom_union (s : BS) (j : Nat) (hj : j < 256) : ∀ (n k : Nat) (s0 : BS), 256 - k ≤ n → ((s.runsFrom k).foldl (fun s r => RE.orS s (BS.run r.a (r.b + 1 - r.a))) s0).has j = (s0.has j || (decide (k ≤ j) && s.has j)) := by
  intro n
  induction n with
  | zero =>
    intro k s0 h
    rw [s.runsFrom_end k (by omega)]
    have : ¬ k ≤ j := by omega
    simp [this]
  | succ n ih =>
    intro k s0 h
    by_cases hk : k < 256
    · cases hs : s.has k with
      | false =>
        rw [s.runsFrom_no k hk hs, ih (k + 1) s0 (by omega)]
        by_cases e : k = j
        · subst e; simp [hs]
        · have : decide (k + 1 ≤ j) = decide (k ≤ j) := decide_eq_decide.2 (by omega)
          rw [this]
      | true =>
        have h1 := s.runEnd_ge k
        have h2 := s.runEnd_lt k hk
        rw [s.runsFrom_yes k hk hs, List.foldl_cons, ih (s.runEnd k + 1) _ (by omega), has_orS _ _ _ hj, BS.has_run k j hj (s.runEnd k + 1 - k) (by omega)]
        by_cases e1 : k ≤ j
        · by_cases e2 : j ≤ s.runEnd k
          · have := s.runEnd_all k hs j e1 e2
            have d1 : decide (k ≤ j ∧ j < k + (s.runEnd k + 1 - k)) = true := decide_eq_true (by omega)
            rw [d1, this]; simp [e1]
          · have d1 : decide (k ≤ j ∧ j < k + (s.runEnd k + 1 - k)) = false := decide_eq_false (by omega)
            have d2 : decide (s.runEnd k + 1 ≤ j) = true := decide_eq_true (by omega)
            rw [d1, d2]; simp [e1]
        · have d1 : decide (k ≤ j ∧ j < k + (s.runEnd k + 1 - k)) = false := decide_eq_false (by omega)
          have d2 : decide (s.runEnd k + 1 ≤ j) = false := decide_eq_false (by omega)
          rw [d1, d2]; simp [e1]
    · rw [s.runsFrom_end k (by omega)]
      have : ¬ k ≤ j := by omega
      simp [this]
theorem runs_union (s : BS) : s.runs.foldl (fun s r => RE.orS s (BS.run r.a (r.b + 1 - r.a))) BS.none = s := by
  refine BS.ext_has fun j hj => ?_
  unfold BS.runs
  rw [runsFrom_union s j hj 256 0 BS.none (by omega), BS.has_none]
  simp
theorem runs_le (s : BS) : ∀ (n k : Nat), 256 - k ≤ n → ∀ r ∈ s.runsFrom k, r.a ≤ r.b := by
  intro n
  induction n with
  | zero => intro k h r hr; rw [s.runsFrom_end k (by omega)] at hr; simp at hr
  | succ n ih =>
    intro k h r hr
    by_cases hk : k < 256
    · cases hs : s.has k with
      | false => rw [s.runsFrom_no k hk hs] at hr; exact ih (k + 1) (by omega) r hr
      | true =>
        rw [s.runsFrom_yes k hk hs] at hr
        rcases List.mem_cons.1 hr with rfl | hr
        · exact s.runEnd_ge k
        · exact ih _ (by have := s.runEnd_ge k; omega) r hr
    · rw [s.runsFrom_end k (by omega)] at hr; simp at hr
theorem runsW_ge (l : List Rn) : l.length ≤ (runsW l).length := by
  induction l with
  | nil => simp
  | cons r l ih =>
    obtain ⟨c, t, h1, _⟩ := runW_start r
    have e : runsW (r :: l) = runW r ++ runsW l := by simp [runsW]
    rw [e, List.length_append, h1]
    simp only [List.length_cons]
    omega
theorem clip_adv (st : PS) (a : Nat) (c : UInt8) (z : List UInt8) (h : (st.adv a).rest = c :: z) : ({ st.adv a with rest := (st.adv a).rest.drop 1, at_ := (st.adv a).at_ + min 1 (st.adv a).rest.length } : PS) = st.adv (a + 1) := by
  rw [← adv_plus]
  unfold adv at h ⊢
  simp only at h ⊢
  rw [h]
  simp
theorem set_plain (s : BS) (st : PS) (z : List UInt8) (h : st.rest = runsW s.runs ++ 93 :: z) (he : st.e = 0) : st.set = (st.adv ((runsW s.runs).length + 1), s) := by
  have hn : ¬ st.rest.head? = some 94 := by rw [h]; exact (runsW_head _ _).2
  have hg := setGo_runs s.runs (runs_le s 256 0 (by omega)) (st.rest.length + 1) st BS.none z h he (by rw [h]; have := runsW_ge s.runs; simp; omega)
  unfold set
  simp only [hn, decide_false, Bool.false_eq_true, if_false]
  rw [hg, runs_union]
  rw [clip_adv st _ 93 z (adv_rest h)]
theorem notS_notS (s : BS) : set.notS' (notS s) = s := by cases s; simp [set.notS', notS]
theorem set_not (s : BS) (st : PS) (z : List UInt8) (h : st.rest = 94 :: (runsW (notS s).runs ++ 93 :: z)) (he : st.e = 0) : st.set = (st.adv ((runsW (notS s).runs).length + 2), s) := by
  have hn : st.rest.head? = some 94 := by rw [h]; rfl
  have h1 : (st.adv 1).rest = runsW (notS s).runs ++ 93 :: z := by show st.rest.drop 1 = _; rw [h]; rfl
  have hg := setGo_runs (notS s).runs (runs_le _ 256 0 (by omega)) ((st.adv 1).rest.length + 1) (st.adv 1) BS.none z h1 he (by rw [h1]; have := runsW_ge (notS s).runs; simp; omega)
  unfold set
  simp only [hn, decide_true, if_true]
  rw [hg, runs_union, notS_notS]
  rw [clip_adv (st.adv 1) _ 93 z (adv_rest h1), adv_plus, show 1 + ((runsW (notS s).runs).length + 1) = (runsW (notS s).runs).length + 2 by omega]
end PS
end Go.Proofs.YtgamknphlmcgnaaGreatDoor
namespace Go.Proofs.YtgamknphlmcgnaaGreatDoor
namespace RE
theorem flat_self {o : Nat} {ks : List RE} (h : ∀ k ∈ ks, k.op ≠ o) : flat o (ks.map some) = ks := by
  induction ks with
  | nil => rfl
  | cons k ks ih =>
    have := ih fun x hx => h x (by simp [hx])
    unfold flat at this ⊢
    rw [List.map_cons, List.flatMap_cons, this]
    show (if k.op = o then k.kids else [k]) ++ ks = _
    rw [if_neg (h k (by simp))]; rfl
theorem node_self {r : RE} (h : nf r) (h2 : r.op ≠ 2) : r = node r.op BS.none r.kids := by
  have := (nf_top h).2.1 h2
  cases r with
  | node o s ks =>
    have e : s = BS.none := this
    rw [e]; rfl
theorem leaf_self {r : RE} (h : nf r) (h0 : r.op = 0) : r = nothing := by
  have e := node_self h (by omega)
  have hk := (nf_top h).2.2.2.1 (by omega)
  rw [e, h0, hk]; rfl
theorem eps_self {r : RE} (h : nf r) (h0 : r.op = 1) : r = empty := by
  have e := node_self h (by omega)
  have hk := (nf_top h).2.2.2.1 (by omega)
  rw [e, h0, hk]; rfl
theorem seqL_two {l : List RE} (h : 2 ≤ l.length) : seqL l = node 3 BS.none l := by
  match l, h with
  | [], h => simp at h
  | [_], h => simp at h
  | _ :: _ :: _, _ => rfl
theorem anyOf_two {l : List RE} (h : 2 ≤ l.length) : anyOf l = node 4 BS.none l := by
  match l, h with
  | [], h => simp at h
  | [_], h => simp at h
  | _ :: _ :: _, _ => rfl
theorem bothOf_two {l : List RE} (h : 2 ≤ l.length) : bothOf l = node 6 BS.none l := by
  match l, h with
  | [], h => simp at h
  | [_], h => simp at h
  | _ :: _ :: _, _ => rfl
theorem thenL_of {l : List RE} (h : ∀ k ∈ l, k.op ≠ 0 ∧ k.op ≠ 1) (x : List (Option RE)) (hx : flat 3 x = l) : thenL x = seqL l := by
  have h1 : (l.filter fun r => r.op != 1) = l := List.filter_eq_self.2 fun k hk => by simpa using (h k hk).2
  have h2 : l.any (fun r => r.op == 0) = false := by
    rw [List.any_eq_false]; intro k hk; simpa using (h k hk).1
  unfold thenL
  rw [hx, h1, h2]; rfl
theorem thenL_kids {r : RE} (h : nf r) (ho : r.op = 3) : thenL (r.kids.map some) = r := by
  obtain ⟨hl, hk⟩ := (nf_top h).2.2.2.2.1 ho
  rw [thenL_of (fun k hk' => ⟨(hk k hk').1, (hk k hk').2.1⟩) _ (flat_self fun k hk' => (hk k hk').2.2), seqL_two hl]
  conv => rhs; rw [node_self h (by omega), ho]
theorem thenL_single {r : RE} (h : nf r) : thenL [some r] = r := by
  by_cases h3 : r.op = 3
  · obtain ⟨hl, hk⟩ := (nf_top h).2.2.2.2.1 h3
    have e : flat 3 [some r] = r.kids := by simp [flat, flat1, h3]
    rw [thenL_of (fun k hk' => ⟨(hk k hk').1, (hk k hk').2.1⟩) _ e, seqL_two hl]
    conv => rhs; rw [node_self h (by omega), h3]
  · have e : flat 3 [some r] = [r] := by simp [flat, flat1, h3]
    by_cases h0 : r.op = 0
    · rw [leaf_self h h0]; rfl
    by_cases h1 : r.op = 1
    · rw [eps_self h h1]; rfl
    rw [thenL_of (l := [r]) (fun k hk' => by rw [List.mem_singleton.1 hk']; exact ⟨h0, h1⟩) _ e]; rfl
theorem joinGo_one (f : BS → BS → BS) : ∀ (l out : List RE) (x : Option RE), (∀ r ∈ l, r.op = 2 → x = none) → l.Pairwise (fun a b => ¬ (a.op = 2 ∧ b.op = 2)) →
    ∃ L, joinGo f l out x = uniq L ∧ ∀ y, y ∈ L ↔ y ∈ out ∨ y ∈ l ∨ x = some y := by
  intro l
  induction l with
  | nil =>
    intro out x _ _
    cases x with
    | none => exact ⟨out, rfl, fun y => by simp⟩
    | some x => exact ⟨out ++ [x], rfl, fun y => by simp [eq_comm]⟩
  | cons r l ih =>
    intro out x hx hp
    obtain ⟨hp1, hp2⟩ := List.pairwise_cons.1 hp
    by_cases h2 : r.op = 2
    · obtain rfl := hx r (by simp) h2
      obtain ⟨L, h1, hL⟩ := ih out (some r) (fun r' hr' h2' => absurd ⟨h2, h2'⟩ (hp1 r' hr')) hp2
      refine ⟨L, ?_, fun y => ?_⟩
      · unfold joinGo; simp only [h2, ne_eq, not_true_eq_false, if_false]; exact h1
      · rw [hL y]; simp [or_comm, or_assoc, or_left_comm, eq_comm]
    · obtain ⟨L, h1, hL⟩ := ih (out ++ [r]) x (fun r' hr' => hx r' (by simp [hr'])) hp2
      refine ⟨L, ?_, fun y => ?_⟩
      · unfold joinGo; rw [if_pos h2]; exact h1
      · rw [hL y]; simp [or_assoc]
theorem strict_pair {ks : List RE} (hs : Strict ks) (h2 : ∀ x ∈ ks, ∀ y ∈ ks, x.op = 2 → y.op = 2 → x = y) : ks.Pairwise (fun a b => ¬ (a.op = 2 ∧ b.op = 2)) :=
  List.Pairwise.imp_of_mem (fun {a b} ha hb hab hc => by
    have := h2 a ha b hb hc.1 hc.2
    subst this
    exact List.lt_irrefl _ hab) hs
theorem joinL_kids {o : Nat} (f : BS → BS → BS) {ks : List RE} (ho : ∀ k ∈ ks, k.op ≠ o) (hw : ∀ k ∈ ks, wf k) (hs : Strict ks) (h2 : ∀ x ∈ ks, ∀ y ∈ ks, x.op = 2 → y.op = 2 → x = y) (l : List (Option RE)) (hl : flat o l = ks) : joinL o f l = ks := by
  unfold joinL
  rw [hl]
  obtain ⟨L, h1, hL⟩ := joinGo_one f ks [] none (fun _ _ _ => rfl) (strict_pair hs h2)
  rw [h1]
  have hm : ∀ y, y ∈ ks ↔ y ∈ L := fun y => by rw [hL y]; simp
  exact (uniq_of hs (fun x hx => hw x ((hm x).2 hx)) hm).symm
theorem joinL_single {o : Nat} (f : BS → BS → BS) {r : RE} (ho : r.op ≠ o) (hw : wf r) : joinL o f [some r] = [r] :=
  joinL_kids f (ks := [r]) (fun k hk => by rw [List.mem_singleton.1 hk]; exact ho) (fun k hk => by rw [List.mem_singleton.1 hk]; exact hw) (List.pairwise_singleton _ _)
    (fun x hx y hy _ _ => by rw [List.mem_singleton.1 hx, List.mem_singleton.1 hy]) _ (by simp [flat, flat1, ho])
theorem anyL_kids_of {r : RE} (h : nf r) (ho : r.op = 4) (l : List (Option RE)) (hl : flat 4 l = r.kids) : anyL l = r := by
  obtain ⟨hn, hk, hs, h2⟩ := (nf_top h).2.2.2.2.2.1 ho
  unfold anyL
  rw [joinL_kids orS (fun k hk' => (hk k hk').2) (fun k hk' => nf_wf k (nf_kids h k hk')) hs h2 l hl]
  rw [List.filter_eq_self.2 fun k hk' => by simpa using (hk k hk').1, anyOf_two hn]
  conv => rhs; rw [node_self h (by omega), ho]
theorem anyL_kids {r : RE} (h : nf r) (ho : r.op = 4) : anyL (r.kids.map some) = r :=
  anyL_kids_of h ho _ (flat_self fun k hk => (((nf_top h).2.2.2.2.2.1 ho).2.1 k hk).2)
theorem anyL_single {r : RE} (h : nf r) : anyL [some r] = r := by
  by_cases h4 : r.op = 4
  · exact anyL_kids_of h h4 _ (by simp [flat, flat1, h4])
  · unfold anyL
    rw [joinL_single orS h4 (nf_wf r h)]
    by_cases h0 : r.op = 0
    · rw [leaf_self h h0]; rfl
    · have : ([r].filter fun r => r.op != 0) = [r] := by simp [h0]
      rw [this]; rfl
theorem bothL_kids_of {r : RE} (h : nf r) (ho : r.op = 6) (l : List (Option RE)) (hl : flat 6 l = r.kids) : bothL l = r := by
  obtain ⟨hn, hk, hs, h2⟩ := (nf_top h).2.2.2.2.2.2.2.1 ho
  unfold bothL
  rw [joinL_kids andS (fun k hk' => (hk k hk').2) (fun k hk' => nf_wf k (nf_kids h k hk')) hs h2 l hl]
  have : r.kids.any (fun r => r.op == 0) = false := by rw [List.any_eq_false]; intro k hk'; simpa using (hk k hk').1
  rw [this, bothOf_two hn]
  conv => rhs; rw [node_self h (by omega), ho]
  rfl
theorem bothL_kids {r : RE} (h : nf r) (ho : r.op = 6) : bothL (r.kids.map some) = r :=
  bothL_kids_of h ho _ (flat_self fun k hk => (((nf_top h).2.2.2.2.2.2.2.1 ho).2.1 k hk).2)
theorem bothL_single {r : RE} (h : nf r) : bothL [some r] = r := by
  by_cases h6 : r.op = 6
  · exact bothL_kids_of h h6 _ (by simp [flat, flat1, h6])
  · unfold bothL
    rw [joinL_single andS h6 (nf_wf r h)]
    by_cases h0 : r.op = 0
    · rw [leaf_self h h0]; rfl
    · simp [h0, bothOf]
theorem many_kid {r : RE} (h : nf r) (ho : r.op = 5) : ∃ k, r.kids = [k] ∧ many (some k) = r := by
  obtain ⟨k, e, h0, h1, h5⟩ := (nf_top h).2.2.2.2.2.2.1 ho
  refine ⟨k, e, ?_⟩
  unfold many
  simp only
  rw [if_neg (by omega), if_neg h5]
  conv => rhs; rw [node_self h (by omega), ho, e]
theorem but_kids {r : RE} (h : nf r) (ho : r.op = 7) : ∃ a b, r.kids = [a, b] ∧ but (some a) (some b) = r := by
  obtain ⟨a, b, e, h0, h1, hne, h2⟩ := (nf_top h).2.2.2.2.2.2.2.2 ho
  refine ⟨a, b, e, ?_⟩
  have ha := nf_kids h a (by rw [e]; simp)
  have hb := nf_kids h b (by rw [e]; simp)
  unfold but
  simp only
  rw [if_neg h0, if_neg (fun hk => hne ((but_inj ha hb).1 hk)), if_neg h1, if_neg h2]
  conv => rhs; rw [node_self h (by omega), ho, e]
end RE
end Go.Proofs.YtgamknphlmcgnaaGreatDoor
namespace Go.Proofs.YtgamknphlmcgnaaGreatDoor
theorem ctz_bits (x : BitVec 64) (h : x ≠ 0) : Lib.ctz 64 x.toNat < 64 ∧ x.getLsbD (Lib.ctz 64 x.toNat) = true ∧ ∀ j, j < Lib.ctz 64 x.toNat → x.getLsbD j = false := by
  have h0 : x.toNat ≠ 0 := fun e => h (BitVec.eq_of_toNat_eq (by simpa using e))
  obtain ⟨m, hm, hk⟩ := Lib.ctzFrom_spec 64 x.toNat (by omega) x.isLt
  have e : Lib.ctz 64 x.toNat = Lib.ctzFrom 64 x.toNat := by simp [Lib.ctz, h0]
  rw [e]
  generalize Lib.ctzFrom 64 x.toNat = c at *
  refine ⟨hk, ?_, fun j hj => ?_⟩
  · show x.toNat.testBit c = true
    rw [hm, Nat.testBit_two_pow_mul]
    simp
  · show x.toNat.testBit j = false
    rw [hm, Nat.testBit_two_pow_mul]
    have : ¬ c ≤ j := by omega
    simp [this]
theorem least_at (s : BS) (q : Nat) (hq : q < 4) (x : BitVec 64) (hx : s.wd q = x) (h : x ≠ 0) (hp : ∀ p, p < q → s.wd p = 0) :
    s.has (64 * q + Lib.ctz 64 x.toNat) = true ∧ (∀ j, j < 64 * q + Lib.ctz 64 x.toNat → s.has j = false) ∧ 64 * q + Lib.ctz 64 x.toNat ≤ 255 := by
  obtain ⟨h1, h2, h3⟩ := ctz_bits x h
  generalize Lib.ctz 64 x.toNat = c at *
  refine ⟨?_, fun j hj => ?_, by omega⟩
  · unfold BS.has
    rw [show (64 * q + c) / 64 = q by omega, show (64 * q + c) % 64 = c by omega, hx]; exact h2
  · unfold BS.has
    by_cases hjq : j / 64 < q
    · rw [hp _ hjq]; simp
    · rw [show j / 64 = q by omega, hx]; exact h3 _ (by omega)
theorem least_spec (s : BS) (h : s ≠ BS.none) : s.has s.least = true ∧ (∀ j, j < s.least → s.has j = false) ∧ s.least ≤ 255 := by
  unfold BS.least
  by_cases h0 : s.a = 0
  · rw [if_neg (fun e => e h0)]
    by_cases h1 : s.b = 0
    · rw [if_neg (fun e => e h1)]
      by_cases h2 : s.c = 0
      · rw [if_neg (fun e => e h2)]
        by_cases h3 : s.d = 0
        · exact absurd (by cases s; simp_all [BS.none]) h
        · rw [if_pos h3]
          exact least_at s 3 (by omega) s.d rfl h3 (fun p hp => by match p, hp with | 0, _ => exact h0 | 1, _ => exact h1 | 2, _ => exact h2)
      · rw [if_pos h2]
        exact least_at s 2 (by omega) s.c rfl h2 (fun p hp => by match p, hp with | 0, _ => exact h0 | 1, _ => exact h1)
    · rw [if_pos h1]
      exact least_at s 1 (by omega) s.b rfl h1 (fun p hp => by match p, hp with | 0, _ => exact h0)
  · rw [if_pos h0]
    have := least_at s 0 (by omega) s.a rfl h0 (fun p hp => by omega)
    simpa using this
theorem single_eq (s : BS) (h : s.len = 1) : BS.none.add s.least = s := by
  have hs : s ≠ BS.none := fun e => by rw [e] at h; exact absurd h (by decide +kernel)
  obtain ⟨h1, h2, h3⟩ := least_spec s hs
  rw [s.len_count, List.countP_eq_length_filter] at h
  obtain ⟨x, hx⟩ := List.length_eq_one_iff.1 h
  have key : ∀ j, j < 256 → s.has j = true → j = x := fun j hj hjs => by
    have : j ∈ (List.range 256).filter s.has := List.mem_filter.2 ⟨List.mem_range.2 hj, hjs⟩
    rw [hx] at this; simpa using this
  refine BS.ext_has fun j hj => ?_
  rw [BS.has_add _ _ _ (by omega) hj, BS.has_none, Bool.false_or]
  have hl := key s.least (by omega) h1
  cases hjs : s.has j with
  | true => exact decide_eq_true (by rw [hl, key j hj hjs])
  | false => exact decide_eq_false fun e => by rw [← e, h1] at hjs; cases hjs
namespace PS
/-- past so many bytes, so many parts -/
def past (st : PS) (k n : Nat) : PS := { rest := st.rest.drop k, at_ := st.at_ + k, deep := st.deep, nodes := st.nodes + n, e := st.e, wh := st.wh }
theorem past_past (st : PS) (j k n m : Nat) : (st.past j n).past k m = st.past (j + k) (n + m) := by unfold past; simp [List.drop_drop, Nat.add_assoc]
theorem past_rest {st : PS} {t z : List UInt8} (h : st.rest = t ++ z) (n : Nat) : (st.past t.length n).rest = z := by unfold past; simp [h]
theorem adv_past (st : PS) (k : Nat) : st.adv k = st.past k 0 := rfl
theorem past_zero (st : PS) : st.past 0 0 = st := by unfold past; simp
/-- nothing, or a byte of some -/
def Fol (l : List UInt8) (z : List UInt8) : Prop := ∀ c, z.head? = some c → l.contains c = true
/-- no byte of some -/
def Nol (l : List UInt8) (z : List UInt8) : Prop := ∀ c, z.head? = some c → l.contains c = false
def wsL : List UInt8 := [32, 9, 10, 13]
theorem isWs_iff (c : UInt8) : isWs c = wsL.contains c := by
  unfold isWs wsL; rw [Bool.eq_iff_iff]; simp [or_assoc]
theorem skip_none {st : PS} (h : Nol wsL st.rest) : st.skip = st := by
  have : wsN st.rest = 0 := by
    cases hq : st.rest with
    | nil => rfl
    | cons c l =>
      rw [wsN, isWs_iff, h c (by rw [hq]; rfl)]; rfl
  unfold skip
  rw [this]
  exact adv_past st 0 ▸ past_zero st
theorem take_miss {st : PS} {b : UInt8} (h : Nol (b :: wsL) st.rest) : st.take b = (st, false) := by
  unfold take
  by_cases hr : st.rest = []
  · rw [if_pos hr]
  · have hs : st.skip = st := skip_none fun c hc => by
      have := h c hc
      rw [List.contains_cons] at this
      simp at this ⊢; exact this.2
    rw [if_neg hr, hs, if_neg]
    rintro ⟨_, e⟩
    cases hq : st.rest with
    | nil => exact hr hq
    | cons c l =>
      have hc : st.head = c := by unfold head; rw [hq]; rfl
      have := h c (by rw [hq]; rfl)
      rw [← hc, e] at this
      simp at this
theorem take_hit {st : PS} {b : UInt8} {z : List UInt8} (h : st.rest = b :: z) (hb : wsL.contains b = false) : st.take b = (st.past 1 0, true) := by
  have hs : st.skip = st := skip_none fun c hc => by rw [h] at hc; cases hc; exact hb
  have hh : st.head = b := by unfold head; rw [h]; rfl
  unfold take
  rw [if_neg (by rw [h]; simp), hs, if_pos ⟨by rw [h]; simp, hh⟩]; rfl
abbrev Rdr := (PS → PS × Option RE) → PS → PS × Option RE
/-- text t is read as x: so many parts, so deep, whatever of some follows -/
def Rd (G : Rdr) (F : List UInt8 → Prop) (t : List UInt8) (n pd : Nat) (x : RE) : Prop :=
  ∀ (d : Nat) (st : PS) (z : List UInt8), st.rest = t ++ z → F z → st.e = 0 → st.nodes + n ≤ 1000 → st.deep + d = 60 → pd ≤ d → G (orN d) st = (st.past t.length n, some x)
/-- a part begins so -/
def Start (t : List UInt8) : Prop := ∃ c l, t = c :: l ∧ ([32, 9, 10, 13, 41, 124, 38, 45, 42, 43, 63] : List UInt8).contains c = false
theorem Start.nol {t : List UInt8} (h : Start t) (z : List UInt8) (l : List UInt8) (hl' : l.all (fun c => ([32, 9, 10, 13, 41, 124, 38, 45, 42, 43, 63] : List UInt8).contains c) = true) : Nol l (t ++ z) := by
  have hl : ∀ c, l.contains c = true → ([32, 9, 10, 13, 41, 124, 38, 45, 42, 43, 63] : List UInt8).contains c = true := fun c hc => List.all_eq_true.1 hl' c (by simpa using hc)
  obtain ⟨c, r, rfl, h1⟩ := h
  intro c' hc'
  simp at hc'
  subst hc'
  cases hq : l.contains c with
  | false => rfl
  | true => rw [hl c hq] at h1; cases h1
def nosg (z : List UInt8) : Prop := Nol [42, 43, 63, 32, 9, 10, 13] z
def stC (z : List UInt8) : Prop := Fol [41, 124, 38, 45] z
def stA (z : List UInt8) : Prop := Fol [41, 124, 45] z
def stM (z : List UInt8) : Prop := Fol [41, 124] z
def stO (z : List UInt8) : Prop := Fol [41] z
theorem Nol.mono {l l' z : List UInt8} (h : Nol l z) (hl : ∀ c, l'.contains c = true → l.contains c = true) : Nol l' z := fun c hc => by
  cases hq : l'.contains c with
  | false => rfl
  | true => have := h c hc; rw [hl c hq] at this; cases this
theorem Fol.nol {l l' z : List UInt8} (h : Fol l z) (hl : l.all (fun c => !l'.contains c) = true) : Nol l' z := fun c hc => by
  have := List.all_eq_true.1 hl c (by simpa using h c hc)
  simpa using this
theorem Rd.post {t : List UInt8} {n pd : Nat} {x : RE} (h : Rd atom (fun _ => True) t n pd x) : Rd post nosg t n pd x := fun d st z hr hF he hn hd hp => by
  unfold PS.post
  simp only
  rw [h d st z hr trivial he hn hd hp]
  simp only
  have hz := past_rest hr n
  have e0 : (st.past t.length n).e = 0 := he
  have m : ∀ b : UInt8, b = 42 ∨ b = 43 ∨ b = 63 → (st.past t.length n).take b = (st.past t.length n, false) := fun b hb => take_miss (by
    rw [hz]
    exact Nol.mono hF fun c hc => by
      rcases hb with rfl | rfl | rfl <;> simp [wsL] at hc ⊢ <;> rcases hc with h | h | h | h | h <;> simp [h])
  rw [postGo, if_neg (by omega), m 42 (by simp)]
  simp only [Bool.false_eq_true, if_false]
  rw [m 43 (by simp)]
  simp only [Bool.false_eq_true, if_false]
  rw [m 63 (by simp)]
  simp
abbrev RdrE := (PS → PS × Option RE) → PS → PS × RE
/-- .. where a reader always yields one -/
def RdE (G : RdrE) (F : List UInt8 → Prop) (t : List UInt8) (n pd : Nat) (x : RE) : Prop :=
  ∀ (d : Nat) (st : PS) (z : List UInt8), st.rest = t ++ z → F z → st.e = 0 → st.nodes + n ≤ 1000 → st.deep + d = 60 → pd ≤ d → G (orN d) st = (st.past t.length n, x)
theorem stops_of {st : PS} (h : stC st.rest) : st.stops = true := by
  unfold stops
  cases hq : st.rest with
  | nil => simp
  | cons c l =>
    have hc : st.head = c := by unfold head; rw [hq]; rfl
    have := h c (by rw [hq]; rfl)
    rw [hc]
    simp at this
    rcases this with rfl | rfl | rfl | rfl <;> simp
theorem stops_not {st : PS} (h : Start st.rest) : st.stops = false := by
  obtain ⟨c, l, h1, h2⟩ := h
  have hc : st.head = c := by unfold head; rw [h1]; rfl
  unfold stops
  rw [hc, h1]
  simp at h2 ⊢
  simp [h2]
theorem Start.app {t : List UInt8} (h : Start t) (z : List UInt8) : Start (t ++ z) := by
  obtain ⟨c, l, rfl, h2⟩ := h
  exact ⟨c, l ++ z, rfl, h2⟩
def txts (l : List (List UInt8 × Nat × RE)) : List UInt8 := l.flatMap (·.1)
def cnts (l : List (List UInt8 × Nat × RE)) : Nat := (l.map (·.2.1)).sum
def vals (l : List (List UInt8 × Nat × RE)) : List (Option RE) := l.map fun a => some a.2.2
theorem catGo_run (pd d : Nat) (hd : pd ≤ d) : ∀ (l : List (List UInt8 × Nat × RE)), (∀ a ∈ l, Start a.1 ∧ Rd post nosg a.1 a.2.1 pd a.2.2) → ∀ (st : PS) (z : List UInt8) (k : Nat) (acc : List (Option RE)), st.rest = txts l ++ z → stC z → st.e = 0 → st.nodes + cnts l ≤ 1000 → st.deep + d = 60 → l.length < k →
    catGo (orN d) k st acc = (st.past (txts l).length (cnts l), RE.thenL (acc ++ vals l)) := by
  intro l
  induction l with
  | nil =>
    intro _ st z k acc hr hz he hn hp hk
    cases k with
    | zero => omega
    | succ k =>
      have hr' : st.rest = z := hr
      have hs : st.skip = st := skip_none (hr' ▸ hz.nol (by decide))
      rw [catGo, if_neg (by omega), hs, if_pos (stops_of (hr' ▸ hz))]
      show (st, RE.thenL acc) = (st.past 0 0, RE.thenL (acc ++ []))
      rw [past_zero, List.append_nil]
  | cons a l ih =>
    intro hl st z k acc hr hz he hn hp hk
    cases k with
    | zero => omega
    | succ k =>
      obtain ⟨hs, hrd⟩ := hl a (by simp)
      have ht : txts (a :: l) = a.1 ++ txts l := by simp [txts]
      have hc : cnts (a :: l) = a.2.1 + cnts l := by simp [cnts]
      rw [ht, List.append_assoc] at hr
      rw [hc] at hn
      have hst : Start st.rest := hr ▸ hs.app _
      have hsk : st.skip = st := skip_none (by rw [hr]; exact hs.nol _ _ (by decide))
      have hnx : nosg (txts l ++ z) := by
        cases l with
        | nil => exact hz.nol (by decide)
        | cons b l =>
          have hb := (hl b (by simp)).1
          rw [show txts (b :: l) = b.1 ++ txts l by simp [txts], List.append_assoc]
          exact hb.nol _ _ (by decide)
      rw [catGo, if_neg (by omega), hsk, stops_not hst]
      simp only [Bool.false_eq_true, if_false]
      rw [hrd d st _ hr hnx he (by omega) hp hd]
      simp only
      rw [ih (fun b hb => hl b (by simp [hb])) _ z k _ (past_rest hr _) hz he (by show st.nodes + a.2.1 + _ ≤ _; omega) hp (by simp at hk; omega)]
      rw [past_past, ht, hc, List.length_append]
      simp [vals]
theorem txts_ge (l : List (List UInt8 × Nat × RE)) (h : ∀ a ∈ l, Start a.1) : l.length ≤ (txts l).length := by
  induction l with
  | nil => simp
  | cons a l ih =>
    obtain ⟨c, t, h1, _⟩ := h a (by simp)
    have := ih fun b hb => h b (by simp [hb])
    have e : txts (a :: l) = a.1 ++ txts l := by simp [txts]
    rw [e, List.length_append, h1]
    simp only [List.length_cons]; omega
theorem cat_run (pd : Nat) (a : List UInt8 × Nat × RE) (l : List (List UInt8 × Nat × RE)) (hl : ∀ b ∈ a :: l, Start b.1 ∧ Rd post nosg b.1 b.2.1 pd b.2.2) : RdE cat stC (txts (a :: l)) (cnts (a :: l)) pd (RE.thenL (vals (a :: l))) := fun d st z hr hz he hn hp hd => by
  obtain ⟨hs, hrd⟩ := hl a (by simp)
  have ht : txts (a :: l) = a.1 ++ txts l := by simp [txts]
  have hc : cnts (a :: l) = a.2.1 + cnts l := by simp [cnts]
  rw [ht, List.append_assoc] at hr
  rw [hc] at hn
  have hnx : nosg (txts l ++ z) := by
    cases l with
    | nil => exact hz.nol (by decide)
    | cons b l =>
      have hb := (hl b (by simp)).1
      rw [show txts (b :: l) = b.1 ++ txts l by simp [txts], List.append_assoc]
      exact hb.nol _ _ (by decide)
  unfold cat
  simp only
  rw [hrd d st _ hr hnx he (by omega) hp hd]
  simp only
  have hge := txts_ge l fun b hb => (hl b (by simp [hb])).1
  rw [catGo_run pd d hd l (fun b hb => hl b (by simp [hb])) _ z _ _ (past_rest hr _) hz he (by show st.nodes + a.2.1 + _ ≤ _; omega) hp (by rw [past_rest hr]; simp; omega)]
  rw [past_past, ht, hc, List.length_append]
  simp [vals]
def txtsB (b : UInt8) (l : List (List UInt8 × Nat × RE)) : List UInt8 := l.flatMap fun a => b :: a.1
theorem listGo_run (G : RdrE) (b : UInt8) (FF : List (Option RE) → RE) (F H : List UInt8 → Prop) (hb : wsL.contains b = false) (hFb : ∀ z, F (b :: z)) (hHF : ∀ z, H z → F z) (hHb : ∀ z, H z → Nol (b :: wsL) z) (pd d : Nat) (hd : pd ≤ d) : ∀ (l : List (List UInt8 × Nat × RE)), (∀ a ∈ l, RdE G F a.1 a.2.1 pd a.2.2) → ∀ (st : PS) (z : List UInt8) (k : Nat) (acc : List (Option RE)), st.rest = txtsB b l ++ z → H z → st.e = 0 → st.nodes + cnts l ≤ 1000 → st.deep + d = 60 → l.length < k →
    listGo (G (orN d)) b FF k st acc = (st.past (txtsB b l).length (cnts l), FF (acc ++ vals l)) := by
  intro l
  induction l with
  | nil =>
    intro _ st z k acc hr hz he hn hp hk
    cases k with
    | zero => omega
    | succ k =>
      have hr' : st.rest = z := hr
      rw [listGo, if_neg (by omega)]
      simp only
      rw [take_miss (hr' ▸ hHb z hz)]
      simp only [Bool.false_eq_true, if_false]
      show (st, FF acc) = (st.past 0 0, FF (acc ++ []))
      rw [past_zero, List.append_nil]
  | cons a l ih =>
    intro hl st z k acc hr hz he hn hp hk
    cases k with
    | zero => omega
    | succ k =>
      have hrd := hl a (by simp)
      have ht : txtsB b (a :: l) = b :: (a.1 ++ txtsB b l) := by simp [txtsB]
      have hc : cnts (a :: l) = a.2.1 + cnts l := by simp [cnts]
      have hr1 : st.rest = [b] ++ (a.1 ++ (txtsB b l ++ z)) := by rw [hr, ht]; simp
      rw [hc] at hn
      have hnx : F (txtsB b l ++ z) := by
        cases l with
        | nil => exact hHF z hz
        | cons c l => simp only [txtsB, List.flatMap_cons, List.cons_append]; exact hFb _
      rw [listGo, if_neg (by omega)]
      simp only
      rw [take_hit hr1 hb]
      simp only [if_true]
      have hr2 := past_rest hr1 0
      simp only [List.length_singleton] at hr2
      rw [hrd d _ _ hr2 hnx he (by show st.nodes + 0 + _ ≤ _; omega) hp hd]
      simp only
      rw [ih (fun b hb => hl b (by simp [hb])) _ z k _ (past_rest hr2 _) hz he (by show st.nodes + 0 + a.2.1 + _ ≤ _; omega) hp (by simp at hk; omega)]
      rw [past_past, past_past, ht, hc]
      simp [vals]
      congr 1; omega
theorem list_run (G : RdrE) (b : UInt8) (FF : List (Option RE) → RE) (F H : List UInt8 → Prop) (hb : wsL.contains b = false) (hFb : ∀ z, F (b :: z)) (hHF : ∀ z, H z → F z) (hHb : ∀ z, H z → Nol (b :: wsL) z) (pd : Nat) (a : List UInt8 × Nat × RE) (l : List (List UInt8 × Nat × RE)) (hl : ∀ c ∈ a :: l, RdE G F c.1 c.2.1 pd c.2.2) :
    RdE (fun f => list (G f) b FF) H (a.1 ++ txtsB b l) (cnts (a :: l)) pd (FF (vals (a :: l))) := fun d st z hr hz he hn hp hd => by
  have hrd := hl a (by simp)
  have hc : cnts (a :: l) = a.2.1 + cnts l := by simp [cnts]
  rw [List.append_assoc] at hr
  rw [hc] at hn
  have hnx : F (txtsB b l ++ z) := by
    cases l with
    | nil => exact hHF z hz
    | cons c l => simp only [txtsB, List.flatMap_cons, List.cons_append]; exact hFb _
  have hge : l.length ≤ (txtsB b l).length := by
    clear hl hr hn hnx hc
    induction l with
    | nil => simp
    | cons c l ih => simp only [txtsB, List.flatMap_cons, List.length_append, List.length_cons] at ih ⊢; omega
  unfold list
  simp only
  rw [hrd d st _ hr hnx he (by omega) hp hd]
  simp only
  rw [listGo_run G b FF F H hb hFb hHF hHb pd d hd l (fun b hb => hl b (by simp [hb])) _ z _ _ (past_rest hr _) hz he (by show st.nodes + a.2.1 + _ ≤ _; omega) hp (by rw [past_rest hr]; simp; omega)]
  rw [past_past, hc, List.length_append]
  simp [vals]
theorem Rd.cat {t : List UInt8} {n pd : Nat} {x : RE} (h : Rd PS.post nosg t n pd x) (hs : Start t) (hx : RE.nf x) : RdE PS.cat stC t n pd x := by
  have := cat_run pd (t, n, x) [] (fun b hb => by rw [List.mem_singleton.1 hb]; exact ⟨hs, h⟩)
  simpa [txts, cnts, vals, RE.thenL_single hx] using this
theorem and_run (pd : Nat) (a : List UInt8 × Nat × RE) (l : List (List UInt8 × Nat × RE)) (hl : ∀ c ∈ a :: l, RdE PS.cat stC c.1 c.2.1 pd c.2.2) : RdE PS.and stA (a.1 ++ txtsB 38 l) (cnts (a :: l)) pd (RE.bothL (vals (a :: l))) :=
  list_run PS.cat 38 RE.bothL stC stA (by decide) (fun z c hc => by cases hc; rfl) (fun z h c hc => by have := h c hc; simp at this ⊢; rcases this with h | h | h <;> simp [h]) (fun z h => h.nol (by decide)) pd a l hl
theorem RdE.and {t : List UInt8} {n pd : Nat} {x : RE} (h : RdE PS.cat stC t n pd x) (hx : RE.nf x) : RdE PS.and stA t n pd x := by
  have := and_run pd (t, n, x) [] (fun b hb => by rw [List.mem_singleton.1 hb]; exact h)
  simpa [txtsB, cnts, vals, RE.bothL_single hx] using this
theorem or_run (pd : Nat) (a : List UInt8 × Nat × RE) (l : List (List UInt8 × Nat × RE)) (hl : ∀ c ∈ a :: l, RdE PS.minus stM c.1 c.2.1 pd c.2.2) : RdE PS.orS stO (a.1 ++ txtsB 124 l) (cnts (a :: l)) pd (RE.anyL (vals (a :: l))) :=
  list_run PS.minus 124 RE.anyL stM stO (by decide) (fun z c hc => by cases hc; rfl) (fun z h c hc => by have := h c hc; simp at this ⊢; simp [this]) (fun z h => h.nol (by decide)) pd a l hl
theorem RdE.or {t : List UInt8} {n pd : Nat} {x : RE} (h : RdE PS.minus stM t n pd x) (hx : RE.nf x) : RdE PS.orS stO t n pd x := by
  have := or_run pd (t, n, x) [] (fun b hb => by rw [List.mem_singleton.1 hb]; exact h)
  simpa [txtsB, cnts, vals, RE.anyL_single hx] using this
/-- a left side of a difference: what was read goes on -/
def Mn (t : List UInt8) (n pd : Nat) (x : RE) : Prop :=
  ∀ (d : Nat) (st : PS) (z : List UInt8), st.rest = t ++ z → stA z → st.e = 0 → st.nodes + n ≤ 1000 → st.deep + d = 60 → pd ≤ d → ∃ k, z.length < k ∧ PS.minus (orN d) st = minusGo (orN d) k (st.past t.length n) x
theorem RdE.mn {t : List UInt8} {n pd : Nat} {x : RE} (h : RdE PS.and stA t n pd x) : Mn t n pd x := fun d st z hr hz he hn hp hd => by
  refine ⟨z.length + 1, by omega, ?_⟩
  unfold minus
  simp only
  rw [h d st z hr hz he hn hp hd]
  simp only
  rw [past_rest hr]
theorem Mn.minus {t : List UInt8} {n pd : Nat} {x : RE} (h : Mn t n pd x) : RdE PS.minus stM t n pd x := fun d st z hr hz he hn hp hd => by
  obtain ⟨k, hk, e⟩ := h d st z hr (fun c hc => by have := hz c hc; simp at this ⊢; rcases this with h | h <;> simp [h]) he hn hp hd
  rw [e]
  cases k with
  | zero => omega
  | succ k =>
    have e0 : ¬ (st.past t.length n).e ≠ 0 := by show ¬ st.e ≠ 0; omega
    rw [minusGo, if_neg e0]
    simp only
    rw [take_miss (by rw [past_rest hr]; exact hz.nol (by decide))]
    simp
theorem Mn.but {t u : List UInt8} {n m pd : Nat} {x y : RE} (h : Mn t n pd x) (h2 : RdE PS.and stA u m pd y) : Mn (t ++ [45] ++ u) (n + m) pd (RE.but (some x) (some y)) := fun d st z hr hz he hn hp hd => by
  have hr1 : st.rest = t ++ ([45] ++ (u ++ z)) := by rw [hr]; simp
  obtain ⟨k, hk, e⟩ := h d st _ hr1 (fun c hc => by cases hc; rfl) he (by omega) hp hd
  rw [e]
  cases k with
  | zero => omega
  | succ k =>
    refine ⟨k, by simp at hk; omega, ?_⟩
    have e0 : ¬ (st.past t.length n).e ≠ 0 := by show ¬ st.e ≠ 0; omega
    have hr2 := past_rest hr1 n
    have hr3 := past_rest hr2 0
    simp only [List.length_singleton] at hr3
    rw [minusGo, if_neg e0]
    simp only
    rw [take_hit hr2 (by decide)]
    simp only [if_true]
    rw [h2 d _ z hr3 hz he (by show st.nodes + n + 0 + m ≤ 1000; omega) hp hd]
    simp only
    rw [past_past, past_past]
    simp [Nat.add_assoc, Nat.add_comm 1]
end PS
end Go.Proofs.YtgamknphlmcgnaaGreatDoor
namespace Go.Proofs.YtgamknphlmcgnaaGreatDoor
namespace PS
/-- one part, where it begins -/
def atomB (f : PS → PS × Option RE) (st : PS) : PS × Option RE :=
  if st.rest.head? = some 40 then
    if 60 < st.deep + 1 then (({ st with deep := st.deep + 1 } : PS).fail 4, none)
    else
      let t := (({ st with deep := st.deep + 1 } : PS).adv 1).take 41
      if t.2 then ({ t.1 with deep := t.1.deep - 1 }, some RE.empty)
      else
        let r := f t.1
        let u := r.1.take 41
        let st3 := if u.2 then u.1 else u.1.fail 2
        ({ st3 with deep := st3.deep - 1 }, r.2)
  else if st.rest.head? = some 91 then ((st.adv 1).set.1, some (RE.one (st.adv 1).set.2))
  else if st.rest.head? = some 46 then (st.adv 1, some (RE.one BS.all))
  else (st.one.1, some (RE.one (BS.none.add st.one.2)))
theorem atom_body (f : PS → PS × Option RE) (st : PS) (h : Nol wsL st.rest) (hn : st.nodes + 1 ≤ 1000) : atom f st = atomB f (st.past 0 1) := by
  have e : ({ st with nodes := st.nodes + 1 } : PS) = st.past 0 1 := by unfold past; simp
  have hk : (st.past 0 1).skip = st.past 0 1 := skip_none (by show Nol wsL (st.rest.drop 0); simpa using h)
  unfold atom
  simp only
  rw [if_neg (by omega), e, hk]
  unfold atomB
  rfl
theorem past0_rest (st : PS) (n : Nat) : (st.past 0 n).rest = st.rest := by unfold past; simp
theorem rd_nothing : Rd atom (fun _ => True) [91, 93] 1 0 RE.nothing := fun d st z hr hF he hn hp hd => by
  rw [atom_body _ _ (by rw [hr]; intro c hc; cases hc; rfl) (by omega)]
  have h1 : (st.past 0 1).rest = 91 :: 93 :: z := by rw [past0_rest, hr]; rfl
  have h2 : ((st.past 0 1).adv 1).rest = runsW (BS.none).runs ++ 93 :: z := by
    rw [show runsW (BS.none).runs = [] by decide +kernel]
    show (st.past 0 1).rest.drop 1 = _
    rw [h1]; rfl
  unfold atomB
  rw [if_neg (by rw [h1]; simp), if_pos (by rw [h1]; rfl), set_plain BS.none _ z h2 he, show runsW (BS.none).runs = [] by decide +kernel]
  simp only [adv_past, past_past]
  rfl
theorem rd_empty : Rd atom (fun _ => True) [40, 41] 1 1 RE.empty := fun d st z hr hF he hn hp hd => by
  rw [atom_body _ _ (by rw [hr]; intro c hc; cases hc; rfl) (by omega)]
  have h1 : (st.past 0 1).rest = 40 :: 41 :: z := by rw [past0_rest, hr]; rfl
  unfold atomB
  rw [if_pos (by rw [h1]; rfl), if_neg (by show ¬ 60 < st.deep + 1; omega)]
  simp only
  rw [take_hit (z := z) (by show (st.past 0 1).rest.drop 1 = _; rw [h1]; rfl) (by decide)]
  simp only [if_true]
  simp [past, adv]
theorem rd_class (s : BS) (hs : s ≠ BS.none) : Rd atom (fun _ => True) (classW s) 1 0 (RE.one s) := fun d st z hr hF he hn hp hd => by
  unfold classW at hr ⊢
  split at hr
  · rename_i h1
    obtain ⟨c, t, hb, hc⟩ := byteW_start s.least s.least_lt
    rw [if_pos h1]
    rw [atom_body _ _ (by
      rw [hr, hb]; intro c' hc'; cases hc'
      cases hq : wsL.contains c with
      | false => rfl
      | true => simp [wsL] at hq; simp [signsL] at hc; rcases hq with rfl | rfl | rfl | rfl <;> simp at hc) (by omega)]
    have h2 : (st.past 0 1).rest = byteW s.least ++ z := by rw [past0_rest, hr]
    have hh : ∀ b : UInt8, signsL.contains b = true → ¬ (st.past 0 1).rest.head? = some b := fun b hb' e => by
      rw [h2, hb] at e
      cases e
      rw [hb'] at hc; cases hc
    unfold atomB
    rw [if_neg (hh 40 (by decide)), if_neg (hh 91 (by decide)), if_neg (hh 46 (by decide)), one_byteW s.least s.least_lt _ z h2]
    simp only [adv_past, past_past, single_eq s h1]
    simp
  · rename_i h1
    rw [if_neg h1]
    split at hr
    · rename_i h2
      rw [if_pos h2]
      rw [atom_body _ _ (by rw [hr]; intro c hc; cases hc; rfl) (by omega)]
      have h3 : (st.past 0 1).rest = 46 :: z := by rw [past0_rest, hr]; rfl
      unfold atomB
      rw [if_neg (by rw [h3]; simp), if_neg (by rw [h3]; simp), if_pos (by rw [h3]; rfl)]
      simp only [adv_past, past_past, h2]
      simp
    · rename_i h2
      rw [if_neg h2]
      unfold setW at hr ⊢
      split at hr
      · rename_i h3
        rw [if_pos h3]
        rw [atom_body _ _ (by rw [hr]; intro c hc; cases hc; rfl) (by omega)]
        have h4 : (st.past 0 1).rest = 91 :: (94 :: (runsW (notS s).runs ++ 93 :: z)) := by rw [past0_rest, hr]; simp
        unfold atomB
        rw [if_neg (by rw [h4]; simp), if_pos (by rw [h4]; rfl), set_not s ((st.past 0 1).adv 1) z (by show (st.past 0 1).rest.drop 1 = _; rw [h4]; rfl) he]
        simp only [adv_past, past_past]
        simp [Nat.add_comm, Nat.add_assoc, Nat.add_left_comm]
        congr 1; omega
      · rename_i h3
        rw [if_neg h3]
        rw [atom_body _ _ (by rw [hr]; intro c hc; cases hc; rfl) (by omega)]
        have h4 : (st.past 0 1).rest = 91 :: (runsW s.runs ++ 93 :: z) := by rw [past0_rest, hr]; simp
        unfold atomB
        rw [if_neg (by rw [h4]; simp), if_pos (by rw [h4]; rfl), set_plain s ((st.past 0 1).adv 1) z (by show (st.past 0 1).rest.drop 1 = _; rw [h4]; rfl) he]
        simp only [adv_past, past_past]
        simp [Nat.add_comm, Nat.add_assoc, Nat.add_left_comm]
theorem rd_par {t : List UInt8} {n pd : Nat} {x : RE} (ht : Start t) (h : RdE orS stO t n pd x) : Rd atom (fun _ => True) ([40] ++ t ++ [41]) (n + 1) (pd + 1) x := fun d st z hr hF he hn hp hd => by
  have hr' : st.rest = 40 :: (t ++ (41 :: z)) := by rw [hr]; simp
  rw [atom_body _ _ (by rw [hr']; intro c hc; cases hc; rfl) (by omega)]
  have h1 : (st.past 0 1).rest = 40 :: (t ++ (41 :: z)) := by rw [past0_rest, hr']
  obtain ⟨d, rfl⟩ : ∃ e, d = e + 1 := ⟨d - 1, by omega⟩
  obtain ⟨st2, e2⟩ : ∃ s : PS, s = ({ st.past 0 1 with deep := (st.past 0 1).deep + 1 } : PS).adv 1 := ⟨_, rfl⟩
  have h2 : st2.rest = t ++ (41 :: z) := by
    rw [e2]
    show (st.past 0 1).rest.drop 1 = _
    rw [h1]; rfl
  have e3 : st2.e = 0 ∧ st2.nodes = st.nodes + 1 ∧ st2.deep = st.deep + 1 := by rw [e2]; exact ⟨he, rfl, rfl⟩
  have hor := h d st2 (41 :: z) h2 (fun c hc => by cases hc; rfl) e3.1 (by omega) (by omega) (by omega)
  have ht2 := take_hit (past_rest h2 n) (by decide)
  unfold atomB
  rw [if_pos (by rw [h1]; rfl), if_neg (by show ¬ 60 < st.deep + 1; omega)]
  simp only
  rw [← e2, take_miss (st := st2) (b := 41) (by rw [h2]; exact ht.nol _ _ (by decide))]
  have hor' : orN (d + 1) st2 = (st2.past t.length n, some x) := by rw [orN, hor]
  simp only [Bool.false_eq_true, if_false, hor', ht2, if_true]
  rw [e2]
  simp [past, adv, Nat.add_comm, Nat.add_assoc, Nat.add_left_comm]
theorem rd_star {t : List UInt8} {n pd : Nat} {x : RE} (h : Rd atom (fun _ => True) t n pd x) (hs : (RE.many (some x)).size ≤ 1000) : Rd post nosg (t ++ [42]) (n + 1) pd (RE.many (some x)) := fun d st z hr hF he hn hp hd => by
  have hr1 : st.rest = t ++ ([42] ++ z) := by rw [hr]; simp
  unfold PS.post
  simp only
  rw [h d st _ hr1 trivial he (by omega) hp hd]
  simp only
  have h2 := past_rest hr1 n
  have h3 := past_rest h2 0
  simp only [List.length_singleton] at h3
  rw [postGo, if_neg (by show ¬ st.e ≠ 0; omega)]
  simp only
  rw [take_hit h2 (by decide)]
  simp only [if_true]
  have hb : ((st.past t.length n).past 1 0).bump (RE.many (some x)) = st.past (t ++ [42]).length (n + 1) := by
    unfold bump
    simp only
    rw [if_neg (by show ¬ (1000 < st.nodes + n + 0 + 1 ∨ _); omega)]
    simp [past, Nat.add_assoc]
  rw [hb, h2]
  have hz := past_rest hr (n + 1)
  have m : ∀ b : UInt8, b = 42 ∨ b = 43 ∨ b = 63 → (st.past (t ++ [42]).length (n + 1)).take b = (st.past (t ++ [42]).length (n + 1), false) := fun b hb => take_miss (by
    rw [hz]
    exact Nol.mono hF fun c hc => by
      rcases hb with rfl | rfl | rfl <;> simp [wsL] at hc ⊢ <;> rcases hc with h | h | h | h | h <;> simp [h])
  rw [show (([42] : List UInt8) ++ z).length = z.length + 1 by simp, postGo, if_neg (by show ¬ st.e ≠ 0; omega)]
  simp only
  rw [m 42 (by simp)]
  simp only [Bool.false_eq_true, if_false]
  rw [m 43 (by simp)]
  simp only [Bool.false_eq_true, if_false]
  rw [m 63 (by simp)]
  simp
/-- within how many parentheses at once: so many are open, so many were the most -/
def deepS : List UInt8 → Int → Int → Int
  | [], _, m => m
  | [c], n, m => if c = 40 then max m (n + 1) else m
  | c :: d :: r, n, m => if c = 92 then deepS r n m else if c = 40 then deepS (d :: r) (n + 1) (max m (n + 1)) else if c = 41 then deepS (d :: r) (n - 1) m else deepS (d :: r) n m
theorem deepS_cons (c : UInt8) (r : List UInt8) (n m : Int) (h : c ≠ 92) : deepS (c :: r) n m = if c = 40 then deepS r (n + 1) (max m (n + 1)) else if c = 41 then deepS r (n - 1) m else deepS r n m := by
  cases r with
  | nil => simp [deepS]
  | cons d r => rw [deepS, if_neg h]
/-- a text whose parentheses are in pairs, so deep -/
def Bal (t : List UInt8) (D : Nat) : Prop := ∀ (z : List UInt8) (n m : Int), n ≤ m → deepS (t ++ z) n m = deepS z n (max m (n + D))
theorem bal_nil : Bal [] 0 := fun z n m h => by
  rw [List.nil_append, show max m (n + (0 : Nat)) = m by omega]
theorem Bal.app {t u : List UInt8} {D E : Nat} (h : Bal t D) (h2 : Bal u E) : Bal (t ++ u) (max D E) := fun z n m hm => by
  rw [List.append_assoc, h _ n m hm, h2 _ n _ (by omega)]
  congr 1; omega
theorem bal_one (c : UInt8) (h : c ≠ 92 ∧ c ≠ 40 ∧ c ≠ 41) : Bal [c] 0 := fun z n m hm => by
  rw [List.singleton_append, deepS_cons _ _ _ _ h.1, if_neg h.2.1, if_neg h.2.2]
  congr 1; omega
theorem bal_esc (c : UInt8) : Bal [92, c] 0 := fun z n m hm => by
  show deepS (92 :: c :: z) n m = _
  rw [deepS, if_pos rfl]
  congr 1; omega
theorem Bal.par {t : List UInt8} {D : Nat} (h : Bal t D) : Bal ([40] ++ t ++ [41]) (D + 1) := fun z n m hm => by
  have e : [40] ++ t ++ [41] ++ z = (40 : UInt8) :: (t ++ (41 :: z)) := by simp
  rw [e, deepS_cons _ _ _ _ (by decide), if_pos rfl, h _ _ _ (by omega), deepS_cons _ _ _ _ (by decide), if_neg (by decide), if_pos rfl]
  congr 1
  · omega
  · omega
theorem bal_byte (b : Nat) (hb : b < 256) : Bal (byteW b) 0 := by
  have hx : ∀ k, k < 16 → hexd k ≠ 92 ∧ hexd k ≠ 40 ∧ hexd k ≠ 41 := by decide +kernel
  unfold byteW
  split
  · exact bal_esc _
  · split
    · exact bal_esc _
    · split
      · exact ((bal_esc 120).app ((bal_one _ (hx (b / 16) (by omega))).app (bal_one _ (hx (b % 16) (by omega)))))
      · split
        · exact bal_esc _
        · rename_i hm
          have key : ∀ b, b < 256 → marked b = true ∨ (b.toUInt8 ≠ 92 ∧ b.toUInt8 ≠ 40 ∧ b.toUInt8 ≠ 41) := by decide +kernel
          exact bal_one _ ((key b hb).resolve_left hm)
theorem bal_runs (l : List Rn) : Bal (runsW l) 0 := by
  induction l with
  | nil => exact bal_nil
  | cons r l ih =>
    rw [show runsW (r :: l) = runW r ++ runsW l by simp [runsW]]
    refine Bal.app (D := 0) (E := 0) ?_ ih
    unfold runW
    refine Bal.app (D := 0) (E := 0) (bal_byte _ r.ha) ?_
    split
    · exact Bal.app (D := 0) (E := 0) (t := [45]) (bal_one _ (by decide)) (bal_byte _ r.hb)
    · exact bal_nil
theorem bal_class (s : BS) : Bal (classW s) 0 := by
  unfold classW
  split
  · exact bal_byte _ s.least_lt
  · split
    · exact bal_one _ (by decide)
    · unfold setW
      split
      · exact Bal.app (D := 0) (E := 0) (Bal.app (D := 0) (E := 0) (Bal.app (D := 0) (E := 0) (t := [91]) (u := [94]) (bal_one _ (by decide)) (bal_one _ (by decide))) (bal_runs _)) (bal_one _ (by decide))
      · exact Bal.app (D := 0) (E := 0) (Bal.app (D := 0) (E := 0) (bal_one _ (by decide)) (bal_runs _)) (bal_one _ (by decide))
end PS
end Go.Proofs.YtgamknphlmcgnaaGreatDoor
namespace Go.Proofs.YtgamknphlmcgnaaGreatDoor
open RE (lvl inW nf size sizes)
namespace PS
def Lv : Nat → List UInt8 → Nat → Nat → RE → Prop
  | 0, t, n, D, x => RdE orS stO t n D x
  | 1, t, n, D, x => Mn t n D x
  | 2, t, n, D, x => RdE PS.and stA t n D x
  | 3, t, n, D, x => RdE PS.cat stC t n D x
  | 4, t, n, D, x => Rd PS.post nosg t n D x
  | _, t, n, D, x => Rd atom (fun _ => True) t n D x
theorem Lv.mono {k : Nat} {t : List UInt8} {n D E : Nat} {x : RE} (h : Lv k t n D x) (hd : D ≤ E) : Lv k t n E x := by
  match k, h with
  | 0, h => exact fun d st z h1 h2 h3 h4 h5 h6 => h d st z h1 h2 h3 h4 h5 (by omega)
  | 1, h => exact fun d st z h1 h2 h3 h4 h5 h6 => h d st z h1 h2 h3 h4 h5 (by omega)
  | 2, h => exact fun d st z h1 h2 h3 h4 h5 h6 => h d st z h1 h2 h3 h4 h5 (by omega)
  | 3, h => exact fun d st z h1 h2 h3 h4 h5 h6 => h d st z h1 h2 h3 h4 h5 (by omega)
  | 4, h => exact fun d st z h1 h2 h3 h4 h5 h6 => h d st z h1 h2 h3 h4 h5 (by omega)
  | k + 5, h => exact fun d st z h1 h2 h3 h4 h5 h6 => h d st z h1 h2 h3 h4 h5 (by omega)
theorem Lv.down {k : Nat} {t : List UInt8} {n D : Nat} {x : RE} (h : Lv (k + 1) t n D x) (hk : k < 5) (hs : Start t) (hx : nf x) : Lv k t n D x := by
  match k, hk, h with
  | 0, _, h => exact RdE.or (Mn.minus h) hx
  | 1, _, h => exact RdE.mn h
  | 2, _, h => exact RdE.and h hx
  | 3, _, h => exact Rd.cat h hs hx
  | 4, _, h => exact Rd.post h
theorem Lv.le {j k : Nat} {t : List UInt8} {n D : Nat} {x : RE} (h : Lv k t n D x) (hj : j ≤ k) (hk : k ≤ 5) (hs : Start t) (hx : nf x) : Lv j t n D x := by
  induction k with
  | zero => rw [show j = 0 by omega]; exact h
  | succ k ih =>
    by_cases e : j = k + 1
    · rw [e]; exact h
    · exact ih (h.down (by omega) hs hx) (by omega) (by omega)
/-- text t at a level is x -/
def Lay (k : Nat) (t : List UInt8) (n D : Nat) (x : RE) : Prop := Bal t D ∧ Start t ∧ Lv k t n D x
theorem lvl_le (o : Nat) : lvl o ≤ 5 := by unfold lvl; repeat' split
                                           all_goals omega
theorem size_pos (r : RE) : 1 ≤ size r := by cases r; rw [size]; omega
theorem Lay.in {r : RE} (hr : nf r) {n D : Nat} (h : Lay (lvl r.op) (RE.ofW r) n D r) (hn : n + 1 ≤ 2 * size r) (k : Nat) (hk : k ≤ 5) : ∃ n D, n ≤ 2 * size r ∧ Lay k (inW k r) n D r := by
  obtain ⟨h1, h2, h3⟩ := h
  unfold inW
  by_cases hl : lvl r.op < k
  · rw [if_pos hl]
    have h0 : RdE orS stO (RE.ofW r) n D r := h3.le (Nat.zero_le _) (lvl_le _) h2 hr
    have hs : Start ([40] ++ RE.ofW r ++ [41]) := ⟨40, RE.ofW r ++ [41], by simp, by decide⟩
    exact ⟨n + 1, D + 1, hn, h1.par, hs, Lv.le (k := 5) (rd_par h2 h0) hk (by omega) hs hr⟩
  · rw [if_neg hl]
    exact ⟨n, D, by omega, h1, h2, h3.le (by omega) (lvl_le _) h2 hr⟩
/-- parts of a list -/
theorem kids_list (k : Nat) : ∀ (ks : List RE), (∀ r ∈ ks, ∃ n D, n ≤ 2 * size r ∧ Lay k (inW k r) n D r) → ∃ (l : List (List UInt8 × Nat × RE)) (D : Nat), vals l = ks.map some ∧ l.map (·.1) = ks.map (inW k) ∧ cnts l ≤ 2 * sizes ks ∧ (∀ a ∈ l, Start a.1 ∧ Lv k a.1 a.2.1 D a.2.2) ∧ Bal (txts l) D ∧ ∀ b : UInt8, b ≠ 92 ∧ b ≠ 40 ∧ b ≠ 41 → Bal (txtsB b l) D := by
  intro ks
  induction ks with
  | nil => exact fun _ => ⟨[], 0, rfl, rfl, by simp [cnts], by simp, bal_nil, fun _ _ => bal_nil⟩
  | cons r ks ih =>
    intro h
    obtain ⟨n, D, h1, h2, h3, h4⟩ := h r (by simp)
    obtain ⟨l, E, l1, l2, l3, l4, l5, l6⟩ := ih fun x hx => h x (by simp [hx])
    refine ⟨(inW k r, n, r) :: l, max D E, ?_, ?_, ?_, ?_, ?_, ?_⟩
    · simp [vals] at l1 ⊢; exact l1
    · simp [l2]
    · simp only [cnts, List.map_cons, List.sum_cons, sizes] at l3 ⊢; omega
    · intro a ha
      rcases List.mem_cons.1 ha with rfl | ha
      · exact ⟨h3, h4.mono (by omega)⟩
      · exact ⟨(l4 a ha).1, (l4 a ha).2.mono (by omega)⟩
    · rw [show txts ((inW k r, n, r) :: l) = inW k r ++ txts l by simp [txts]]
      exact h2.app l5
    · intro b hb
      rw [show txtsB b ((inW k r, n, r) :: l) = [b] ++ inW k r ++ txtsB b l by simp [txtsB]]
      have := ((bal_one b hb).app h2).app (l6 b hb)
      rwa [show max (max 0 D) E = max D E by omega] at this
theorem join_nil' (l : List (List UInt8 × Nat × RE)) : Lib.joinTail [] (l.map (·.1)) = txts l := by
  unfold Lib.joinTail txts
  induction l with
  | nil => rfl
  | cons a l ih => simp at ih ⊢; exact ih
theorem join_b (b : UInt8) (l : List (List UInt8 × Nat × RE)) : Lib.joinTail [b] (l.map (·.1)) = txtsB b l := by
  unfold Lib.joinTail txtsB
  induction l with
  | nil => rfl
  | cons a l ih => simp at ih ⊢; exact ih
theorem mem_sizes {k : RE} {ks : List RE} (h : k ∈ ks) : size k ≤ sizes ks := by
  induction ks with
  | nil => simp at h
  | cons a ks ih =>
    rw [sizes]
    rcases List.mem_cons.1 h with rfl | h
    · omega
    · have := ih h; omega
theorem kid_size {r k : RE} (h : k ∈ r.kids) : size k + 1 ≤ size r := by
  cases r with
  | node o s ks =>
    rw [size]
    have := mem_sizes (ks := ks) h
    omega
theorem size_eq (r : RE) : size r = 1 + sizes r.kids := by cases r; rw [size]; rfl
theorem ofW_eq (r : RE) : RE.ofW r = if r.op = 1 then [40, 41] else if r.op = 2 then classW r.set else if r.op = 3 then Lib.join (r.kids.map (inW 4)) [] else if r.op = 4 then Lib.join (r.kids.map (inW 1)) [124] else if r.op = 6 then Lib.join (r.kids.map (inW 3)) [38] else if r.op = 7 then RE.butW r.kids else if r.op = 5 then RE.starW r.kids else [91, 93] := by
  cases r
  rw [RE.ofW, RE.insW_map, RE.insW_map, RE.insW_map]; rfl
theorem all_read : ∀ (N : Nat) (r : RE), size r ≤ N → N ≤ 1000 → nf r → ∃ n D, n + 1 ≤ 2 * size r ∧ Lay (lvl r.op) (RE.ofW r) n D r := by
  intro N
  induction N with
  | zero => intro r h; have := size_pos r; omega
  | succ N ih =>
    intro r hN hN2 hr
    have kid : ∀ x ∈ r.kids, ∀ k, k ≤ 5 → ∃ n D, n ≤ 2 * size x ∧ Lay k (inW k x) n D x := fun x hx k hk => by
      have := kid_size hx
      obtain ⟨n, D, h1, h2⟩ := ih x (by omega) (by omega) (RE.nf_kids hr x hx)
      exact Lay.in (RE.nf_kids hr x hx) h2 h1 k hk
    have hsz := size_eq r
    rw [ofW_eq]
    by_cases o1 : r.op = 1
    · rw [if_pos o1, o1]
      have e := RE.eps_self hr o1
      refine ⟨1, 1, by omega, ?_, ⟨40, [41], rfl, by decide⟩, by rw [e]; exact rd_empty⟩
      exact bal_nil.par
    rw [if_neg o1]
    by_cases o2 : r.op = 2
    · rw [if_pos o2, o2]
      have hs := (RE.nf_top hr).2.2.1 o2
      have hk := (RE.nf_top hr).2.2.2.1 (by omega)
      have e : r = RE.one r.set := by
        unfold RE.one
        rw [if_neg hs]
        cases r with
        | node o s ks =>
          have o2 : o = 2 := o2
          have hk : ks = [] := hk
          rw [o2, hk]; rfl
      refine ⟨1, 0, by omega, bal_class _, ?_, ?_⟩
      · unfold classW
        split
        · obtain ⟨c, t, h1, h2⟩ := byteW_start r.set.least r.set.least_lt
          rw [h1]
          refine ⟨c, t, rfl, ?_⟩
          simp [signsL] at h2 ⊢
          simp [h2]
        · split
          · exact ⟨46, [], rfl, by decide⟩
          · unfold setW
            split
            · exact ⟨91, _, by simp; rfl, by decide⟩
            · exact ⟨91, _, by simp; rfl, by decide⟩
      · have := rd_class r.set hs
        rw [← e] at this
        exact this
    rw [if_neg o2]
    by_cases o3 : r.op = 3
    · rw [if_pos o3, o3]
      obtain ⟨hl, _⟩ := (RE.nf_top hr).2.2.2.2.1 o3
      have hth := RE.thenL_kids hr o3
      obtain ⟨l, D, l1, l2, l3, l4, l5, l6⟩ := kids_list 4 r.kids (fun x hx => kid x hx 4 (by omega))
      match l, l1, l2, l3, l4, l5 with
      | [], l1, l2, _, _, _ => simp [vals] at l1; rw [l1] at hl; simp at hl
      | a :: l, l1, l2, l3, l4, l5 =>
        have ht : Lib.join (r.kids.map (inW 4)) [] = txts (a :: l) := by
          rw [← l2, List.map_cons, Lib.join_cons, join_nil']; simp [txts]
        rw [ht]
        refine ⟨cnts (a :: l), D, by omega, l5, ?_, ?_⟩
        · rw [show txts (a :: l) = a.1 ++ txts l by simp [txts]]
          exact (l4 a (by simp)).1.app _
        · have := cat_run D a l l4
          rw [l1, hth] at this
          exact this
    rw [if_neg o3]
    by_cases o4 : r.op = 4
    · rw [if_pos o4, o4]
      obtain ⟨hl, _⟩ := (RE.nf_top hr).2.2.2.2.2.1 o4
      have hth := RE.anyL_kids hr o4
      cases hk : r.kids with
      | nil => rw [hk] at hl; simp at hl
      | cons k ks =>
        obtain ⟨n, D, h1, h2, h3, h4⟩ := kid k (by rw [hk]; simp) 1 (by omega)
        obtain ⟨l, E, l1, l2, l3, l4, l5, l6⟩ := kids_list 1 ks (fun x hx => kid x (by rw [hk]; simp [hx]) 1 (by omega))
        have ht : Lib.join ((k :: ks).map (inW 1)) [124] = inW 1 k ++ txtsB 124 l := by
          rw [List.map_cons, ← l2, Lib.join_cons, join_b]
        rw [ht]
        refine ⟨cnts ((inW 1 k, n, k) :: l), max D E, ?_, h2.app (l6 124 (by decide)), h3.app _, ?_⟩
        · rw [hk, sizes] at hsz
          simp only [cnts, List.map_cons, List.sum_cons] at l3 ⊢; omega
        · have := or_run (max D E) (inW 1 k, n, k) l (fun c hc => by
            rcases List.mem_cons.1 hc with rfl | hc
            · exact Mn.minus (Lv.mono (k := 1) h4 (by omega))
            · exact Mn.minus (Lv.mono (k := 1) (l4 c hc).2 (by omega)))
          have e : vals ((inW 1 k, n, k) :: l) = r.kids.map some := by
            rw [hk, List.map_cons, ← l1]; rfl
          rw [e, hth] at this
          exact this
    rw [if_neg o4]
    by_cases o6 : r.op = 6
    · rw [if_pos o6, o6]
      obtain ⟨hl, _⟩ := (RE.nf_top hr).2.2.2.2.2.2.2.1 o6
      have hth := RE.bothL_kids hr o6
      cases hk : r.kids with
      | nil => rw [hk] at hl; simp at hl
      | cons k ks =>
        obtain ⟨n, D, h1, h2, h3, h4⟩ := kid k (by rw [hk]; simp) 3 (by omega)
        obtain ⟨l, E, l1, l2, l3, l4, l5, l6⟩ := kids_list 3 ks (fun x hx => kid x (by rw [hk]; simp [hx]) 3 (by omega))
        have ht : Lib.join ((k :: ks).map (inW 3)) [38] = inW 3 k ++ txtsB 38 l := by
          rw [List.map_cons, ← l2, Lib.join_cons, join_b]
        rw [ht]
        refine ⟨cnts ((inW 3 k, n, k) :: l), max D E, ?_, h2.app (l6 38 (by decide)), h3.app _, ?_⟩
        · rw [hk, sizes] at hsz
          simp only [cnts, List.map_cons, List.sum_cons] at l3 ⊢; omega
        · have := and_run (max D E) (inW 3 k, n, k) l (fun c hc => by
            rcases List.mem_cons.1 hc with rfl | hc
            · exact Lv.mono (k := 3) h4 (by omega)
            · exact Lv.mono (k := 3) (l4 c hc).2 (by omega))
          have e : vals ((inW 3 k, n, k) :: l) = r.kids.map some := by
            rw [hk, List.map_cons, ← l1]; rfl
          rw [e, hth] at this
          exact this
    rw [if_neg o6]
    by_cases o7 : r.op = 7
    · rw [if_pos o7, o7]
      obtain ⟨a, b, hk, hb⟩ := RE.but_kids hr o7
      obtain ⟨n, D, h1, h2, h3, h4⟩ := kid a (by rw [hk]; simp) 1 (by omega)
      obtain ⟨m, E, g1, g2, g3, g4⟩ := kid b (by rw [hk]; simp) 2 (by omega)
      have ht : RE.butW r.kids = inW 1 a ++ [45] ++ inW 2 b := by rw [hk]; rfl
      rw [ht]
      rw [hk, sizes, sizes, sizes] at hsz
      refine ⟨n + m, max D E, by omega, ?_, ?_, ?_⟩
      · have := (h2.app (bal_one 45 (by decide))).app g2
        rwa [show max (max D 0) E = max D E by omega] at this
      · rw [List.append_assoc]; exact h3.app _
      · have := Mn.but (Lv.mono (k := 1) (E := max D E) h4 (by omega)) (Lv.mono (k := 2) (E := max D E) g4 (by omega))
        rw [hb] at this
        exact this
    rw [if_neg o7]
    by_cases o5 : r.op = 5
    · rw [if_pos o5, o5]
      obtain ⟨k, hk, hm⟩ := RE.many_kid hr o5
      obtain ⟨n, D, h1, h2, h3, h4⟩ := kid k (by rw [hk]; simp) 5 (by omega)
      have ht : RE.starW r.kids = inW 5 k ++ [42] := by rw [hk]; rfl
      rw [ht]
      rw [hk, sizes, sizes] at hsz
      refine ⟨n + 1, D, by omega, ?_, h3.app _, ?_⟩
      · have := h2.app (bal_one 42 (by decide))
        rwa [show max D 0 = D by omega] at this
      · have := rd_star (x := k) h4 (by rw [hm]; omega)
        rw [hm] at this
        exact this
    rw [if_neg o5]
    have o0 : r.op = 0 := by have := (RE.nf_top hr).1; omega
    rw [o0]
    have e := RE.leaf_self hr o0
    refine ⟨1, 0, by omega, ?_, ⟨91, [93], rfl, by decide⟩, by rw [e]; exact rd_nothing⟩
    exact Bal.app (D := 0) (E := 0) (t := [91]) (u := [93]) (bal_one _ (by decide)) (bal_one _ (by decide))
end PS
/-- how deep the parentheses of a text lie in one another -/
def deepW (t : List UInt8) : Int := PS.deepS t 0 0
/-- what is written is read -/
theorem again (r : RE) (h : nf r) (hs : size r ≤ 300) (hd : deepW (RE.ofW r) ≤ 60) (hl : (RE.ofW r).length ≤ 65536 ∨ True) : readW (RE.ofW r) = (some r, 0, 0) ∨ 65536 < (RE.ofW r).length := by
  by_cases hl : 65536 < (RE.ofW r).length
  · exact .inr hl
  refine .inl ?_
  obtain ⟨n, D, h1, h2, h3, h4⟩ := PS.all_read 1000 r (by omega) (by omega) h
  have hD : (D : Int) ≤ 60 := by
    have := h2 [] 0 0 (by omega)
    unfold deepW at hd
    rw [List.append_nil] at this
    rw [this] at hd
    unfold PS.deepS at hd
    omega
  have h0 : PS.RdE PS.orS PS.stO (RE.ofW r) n D r := h4.le (Nat.zero_le _) (PS.lvl_le _) h3 h
  have hrd := h0 60 ⟨RE.ofW r, 0, 0, 0, 0, 0⟩ [] (by simp) (fun c hc => by cases hc) rfl (by show 0 + n ≤ 1000; omega) (by show 0 + 60 = 60; omega) (by omega)
  have hS : readS (RE.ofW r) = (PS.past ⟨RE.ofW r, 0, 0, 0, 0, 0⟩ (RE.ofW r).length n, r) := hrd
  have hr0 : (PS.past ⟨RE.ofW r, 0, 0, 0, 0, 0⟩ (RE.ofW r).length n).rest = [] := by simp [PS.past]
  have hE : (readE (RE.ofW r)).e = 0 := by
    unfold readE
    rw [hS]
    simp only
    rw [if_pos (show (PS.past ⟨RE.ofW r, 0, 0, 0, 0, 0⟩ (RE.ofW r).length n).e = 0 from rfl)]
    have hk : (PS.past ⟨RE.ofW r, 0, 0, 0, 0, 0⟩ (RE.ofW r).length n).skip = PS.past ⟨RE.ofW r, 0, 0, 0, 0, 0⟩ (RE.ofW r).length n := PS.skip_none (by rw [hr0]; intro c hc; cases hc)
    rw [hk, if_pos hr0, if_neg (by omega)]
    rfl
  unfold readW
  rw [if_neg hl, if_pos hE, hS]
end Go.Proofs.YtgamknphlmcgnaaGreatDoor
end
section
set_option linter.unusedSimpArgs false
set_option linter.unusedVariables false
set_option maxRecDepth 100000
set_option linter.unnecessarySimpa false
namespace Go.Proofs.YtgamknphlmcgnaaGreatDoor
/-- a token: what it is, its text, its expression, where it stands -/
structure LT where
  kind : Nat
  text : List UInt8
  re : Option RE
  at_ : Nat
namespace LX
def letter (c : UInt8) (first : Bool) : Bool := (97 ≤ c && c ≤ 122) || c == 95 || (!first && (48 ≤ c && c ≤ 57))
/-- ( ) , . ; | * = -/
def signs : List UInt8 := [40, 41, 44, 46, 59, 124, 42, 61]
/-- what stands for itself in quotes -/
def plainQ : List UInt8 := [40, 41, 91, 93, 124, 38, 45, 42, 43, 63, 46, 32]
/-- how far a byte stands that isn't written otherwise -/
def untilN (b : UInt8) : List UInt8 → Option Nat
  | [] => none
  | [c] => if c = b then some 0 else none
  | c :: d :: r => if c = b then some 0 else if c = 92 then (untilN b r).map (· + 2) else (untilN b (d :: r)).map (· + 1)
/-- gaps and remarks: how many bytes; within a remark? -/
def skipS : Bool → List UInt8 → Nat
  | _, [] => 0
  | false, c :: r => if c = 32 ∨ c = 9 ∨ c = 10 ∨ c = 13 then skipS false r + 1 else if c = 35 then skipS true r + 1 else 0
  | true, c :: r => if c = 10 then skipS false r + 1 else skipS true r + 1
/-- the bytes of a name -/
def nameN : List UInt8 → Nat
  | [] => 0
  | c :: r => if letter c false then nameN r + 1 else 0
/-- an expression's one byte -/
def single1 (o : Option RE) : Option Nat :=
  match o with
  | none => none
  | some x => if x.op = 2 ∧ x.set.len = 1 then some x.set.least else none
def single (r : Option RE × Nat × Nat) : Option Nat := single1 r.1
def qStep (c : UInt8) (r : List UInt8) : Nat := if c = 92 then (if r.head? = some 120 then 4 else 2) else 1
/-- what is between quotes: its bytes, and where it can't go on -/
def qGo : Nat → List UInt8 → Nat → List UInt8 → List UInt8 × Option Nat
  | 0, _, _, out => (out, none)
  | _ + 1, [], _, out => (out, none)
  | f + 1, c :: r, i, out =>
    if c ≠ 92 ∧ plainQ.contains c = true then qGo f r (i + 1) (out ++ [c])
    else match single (readW ((c :: r).take (qStep c r))) with
      | none => (out, some i)
      | some b => qGo f ((c :: r).drop (qStep c r)) (i + qStep c r) (out ++ [b.toUInt8])
/-- a text in quotes, behind the first one -/
def quoted (s : List UInt8) (a : Nat) (r : List UInt8) : LT × Nat × Nat :=
  match untilN 34 r with
  | none => (⟨3, [], none, a⟩, 2, s.length)
  | some k => match qGo (k + 1) (r.take k) (a + 1) [] with
    | (out, none) => (⟨3, out, none, a⟩, 0, a + k + 2)
    | (_, some i) => (⟨3, [], none, a⟩, 2, i)
/-- an expression between two slashes, behind the first one -/
def expr (s : List UInt8) (a : Nat) (r : List UInt8) : LT × Nat × Nat :=
  match untilN 47 r with
  | none => (⟨4, [], none, a⟩, 2, s.length)
  | some k => if (readW (r.take k)).2.1 = 0 then (⟨4, [], (readW (r.take k)).1, a⟩, 0, a + k + 2) else (⟨4, [], none, a⟩, (readW (r.take k)).2.1, a + 1 + (readW (r.take k)).2.2)
/-- the next token, from a place where none of a gap is left; the error, and where the lexer is behind it -/
def token (s : List UInt8) (a : Nat) : LT × Nat × Nat :=
  match s.drop a with
  | [] => (⟨0, [], none, a⟩, 0, a)
  | b :: r =>
    if letter b true then
      if 30 < nameN (b :: r) then (⟨1, (b :: r).take (nameN (b :: r)), none, a⟩, 3, a) else (⟨1, (b :: r).take (nameN (b :: r)), none, a⟩, 0, a + nameN (b :: r))
    else if signs.contains b then (⟨2, [b], none, a⟩, 0, a + 1)
    else if b = 34 then quoted s a r
    else if b = 47 then expr s a r
    else (⟨0, [], none, a⟩, 2, a)
def next (s : List UInt8) (at_ : Nat) : LT × Nat × Nat := token s (at_ + skipS false (s.drop at_))
def allGo (s : List UInt8) : Nat → Nat → List LT → List LT × Nat × Nat
  | 0, at_, _ => ([], 2, at_)
  | f + 1, at_, out =>
    if (next s at_).2.1 ≠ 0 then ([], (next s at_).2.1, (next s at_).2.2)
    else if (next s at_).1.kind = 0 then (out ++ [(next s at_).1], 0, 0)
    else allGo s f (next s at_).2.2 (out ++ [(next s at_).1])
end LX
/-- the tokens of a text; the error, and where it is -/
def lexW (s : List UInt8) : List LT × Nat × Nat := if 65536 < s.length then ([], 3, 0) else LX.allGo s (s.length + 1) 0 []
namespace LX
theorem untilN_lt {b : UInt8} : ∀ (n : Nat) (l : List UInt8) (k : Nat), l.length ≤ n → untilN b l = some k → k < l.length ∧ l.getD k 0 = b := by
  intro n
  induction n with
  | zero =>
    intro l k hn h
    have : l = [] := List.length_eq_zero_iff.1 (by omega)
    subst this
    simp [untilN] at h
  | succ n ih =>
    intro l k hn h
    match l, hn, h with
    | [], _, h => simp [untilN] at h
    | [c], _, h =>
      rw [untilN] at h
      split at h
      · rename_i hc
        cases h
        exact ⟨by simp, hc⟩
      · cases h
    | c :: d :: r, hn, h =>
      rw [untilN] at h
      split at h
      · rename_i hc
        cases h
        exact ⟨by simp, hc⟩
      · split at h
        · obtain ⟨j, hj, rfl⟩ := Option.map_eq_some_iff.1 h
          obtain ⟨h1, h2⟩ := ih r j (by simp at hn; omega) hj
          exact ⟨by simp; omega, by simpa using h2⟩
        · obtain ⟨j, hj, rfl⟩ := Option.map_eq_some_iff.1 h
          obtain ⟨h1, h2⟩ := ih (d :: r) j (by simp at hn ⊢; omega) hj
          exact ⟨by simp at h1 ⊢; omega, by simpa using h2⟩
theorem skipS_le (l : List UInt8) : ∀ c, skipS c l ≤ l.length := by
  induction l with
  | nil => intro c; cases c <;> simp [skipS]
  | cons a r ih =>
    intro c
    have h1 := ih true
    have h2 := ih false
    cases c <;> rw [skipS] <;> (repeat' split) <;> simp <;> omega
theorem nameN_le (l : List UInt8) : nameN l ≤ l.length := by
  induction l with
  | nil => simp [nameN]
  | cons a r ih => rw [nameN]; split <;> simp <;> omega
end LX
end Go.Proofs.YtgamknphlmcgnaaGreatDoor
end
