/-
  'made', walked through the program: a node, and what is known of it.
-/
import Derived.Test.YticpjjmacmmpjaaGreatDoorReM
import Derived.Test.YticpjjmacmmpjaaGreatDoorReN
import Derived.Test.YticpjjmacmmpjaaGreatDoorReS
import Derived.Test.YticpjjmacmmpjaaGreatDoorMix
import Derived.Deep.AppendLies
import Derived.Deep.WholeRow
set_option linter.unusedSimpArgs false
set_option linter.unusedVariables false
set_option maxRecDepth 100000
set_option linter.unnecessarySimpa false
namespace Go.Proofs.YticpjjmacmmpjaaGreatDoor
open Go.RowKit

theorem re_grownBy {W W' : World} (hb : Below W.heap.size W W') : W.grownBy W' none := ⟨hb.os, hb.tape, hb.output, hb.size, fun k hk _ => hb.block k hk⟩
theorem re_mono {w : World} {base base' : Nat} {e : TypeId} {size : Nat} {v : Value} {n : Nat} {xs : List Value} (h : w.ownsRow base e size v n xs) (hb : base' ≤ base) : w.ownsRow base' e size v n xs := by
  refine ⟨h.1, ?_⟩
  rcases h.2 with h2 | ⟨g, cap, cur, hv, hg, r⟩
  · exact .inl h2
  · exact .inr ⟨g, cap, cur, hv, by omega, r⟩
theorem re_alloc (W : World) (o : Obj) : Below W.heap.size W (W.alloc o) := ext_alloc (Below.refl _ W) o
theorem infoStr : (Tryz.prog.info? 9).map (fun i => (i.zero, i.size, i.bytes)) = some (some (.string ⟨#[]⟩), 1, 16) := by kernel_rfl
def strV (l : List UInt8) : Value := .string ⟨l.toArray⟩
theorem strV_one (l : List (List UInt8)) : ∀ u ∈ l.map strV, u.oneCell' = true := by intro u hu; obtain ⟨x, _, rfl⟩ := List.mem_map.1 hu; rfl

/-- the cells of a node that is being made -/
def nodeOf (o : Nat) (s : BS) (kp : Option Addr) (n cap : Nat) (nl : Bool) (key : List UInt8) (sz : Nat) : Array Value :=
  #[.int .i64 o, .int .u64 (wN s.a), .int .u64 (wN s.b), .int .u64 (wN s.c), .int .u64 (wN s.d), .slice kp n cap, .bool nl, .string ⟨key.toArray⟩, .int .i64 sz]
/-- between two rounds: the parts so far, and the node so far -/
structure MadeW (w : World) (N o : Nat) (s : BS) (kp : Option Addr) (n cap : Nat) (nl : Bool) (ps : List (List UInt8)) (sz : Nat) (v : Value) (wr : World) : Prop where
  own : wr.ownsRow w.heap.size 9 1 v ps.length (ps.map strV)
  ne : v.ownBlock ≠ some N
  node : wr.heap[N]? = some (.cells (nodeOf o s kp n cap nl [] sz) 115 (0, 0))
  bel : Below w.heap.size w wr
  lo : w.heap.size ≤ N
theorem MadeW.lt {w wr : World} {N o : Nat} {s : BS} {kp : Option Addr} {n cap : Nat} {nl : Bool} {ps : List (List UInt8)} {sz : Nat} {v : Value} (h : MadeW w N o s kp n cap nl ps sz v wr) : N < wr.heap.size := (Array.getElem?_eq_some_iff.1 h.node).1
theorem MadeW.later {w wr wr' : World} {N o : Nat} {s : BS} {kp : Option Addr} {n cap : Nat} {nl : Bool} {ps : List (List UInt8)} {sz : Nat} {v : Value} (h : MadeW w N o s kp n cap nl ps sz v wr) (hb : Below wr.heap.size wr wr') : MadeW w N o s kp n cap nl ps sz v wr' :=
  ⟨h.own.kept (re_grownBy hb) (by cases v.ownBlock <;> simp), h.ne, by rw [hb.block _ h.lt]; exact h.node, ext_step h.bel hb, h.lo⟩
theorem MadeW.appended {w wr Wa W' : World} {N o : Nat} {s : BS} {kp : Option Addr} {n cap : Nat} {nl : Bool} {ps : List (List UInt8)} {sz : Nat} {v : Value} {k : List UInt8} {g cp H : Nat} (h : MadeW w N o s kp n cap nl ps sz v wr) (hb : Below wr.heap.size wr Wa) (hH : wr.heap.size ≤ H)
   (hown : W'.ownsRow w.heap.size 9 1 (.slice (some ⟨g, 0, none⟩) (ps.length + 1) cp) (ps.length + 1) (ps.map strV ++ [strV k])) (hg : Wa.grownBy W' v.ownBlock) (hat : v.ownBlock = some g ∨ g = H) :
    MadeW w N o s kp n cap nl (ps ++ [k]) sz (.slice (some ⟨g, 0, none⟩) (ps.length + 1) cp) W' := by
  have hW := h.later hb
  have h1 := h.lt
  refine ⟨by rw [List.length_append, List.map_append]; exact hown, ?_, ?_, hW.bel.grown hg hW.bel.size (fun k e => (h.own.lt k e).1), h.lo⟩
  · simp only [Value.ownBlock, ne_eq, Option.map_some, Option.some.injEq]
    rcases hat with e | e
    · intro e'; exact h.ne (by rw [e]; simpa using e')
    · intro e'; have : g = N := by simpa using e'
      omega
  · rw [hg.block N hW.lt (fun e => h.ne e.symm)]; exact hW.node
theorem MadeW.setSize {w wr : World} {N o : Nat} {s : BS} {kp : Option Addr} {n cap : Nat} {nl : Bool} {ps : List (List UInt8)} {sz sz' : Nat} {v : Value} (h : MadeW w N o s kp n cap nl ps sz v wr) : MadeW w N o s kp n cap nl ps sz' v (wr.setCell ⟨N, 8, none⟩ (.int .i64 (sz' : Nat))) := by
  have hg : wr.grownBy (wr.setCell ⟨N, 8, none⟩ (.int .i64 (sz' : Nat))) (some N) := ⟨rfl, rfl, rfl, by simp, fun k hk hne => Below.heap_setCell _ _ _ _ (fun e => hne (by rw [e]))⟩
  refine ⟨h.own.kept hg (.inr h.ne), h.ne, ?_, h.bel.setCell h.lo _, h.lo⟩
  rw [heap_setCell_same _ _ _ _ _ _ h.node]; rfl
def MadeAt (w : World) (N o : Nat) (s : BS) (kp : Option Addr) (ks : List RE) (cap : Nat) (nl : Bool) (v i : Value) (wr : World) : Prop :=
  ∃ k : Nat, k ≤ ks.length ∧ i = .int .i64 k ∧ MadeW w N o s kp ks.length cap nl (RE.parts o s (RE.keys (ks.take k))) (1 + RE.sizes (ks.take k)) v wr

set_option maxRecDepth 100000 in
set_option maxHeartbeats 4000000 in
theorem made_other (o : Nat) (ho : o < 8) (ho2 : o ≠ 2) (s0 s1 s2 s3 : BitVec 64) (nl : Bool) (kp : Option Addr) (cap : Nat) (bs : List Nat) (ks : List RE) (w : World) (hr : PtrsAt w kp bs) (hk : AreRe w bs ks) (hnl : nl = (RE.node o ⟨s0, s1, s2, s3⟩ ks).null) (hsz : RE.sizes ks ≤ 1099511627776) :
    Calls Tryz.prog 74 #[.int .i64 o, .agg #[.int .u64 (wN s0), .int .u64 (wN s1), .int .u64 (wN s2), .int .u64 (wN s3)], .bool nl, .slice kp ks.length cap] w fun e w' => ∃ b, e = .returned (ptr b) ∧ w.heap.size ≤ b ∧ w'.heap[b]? = some (.cells (nodeCells (RE.node o ⟨s0, s1, s2, s3⟩ ks) kp cap) 115 (0, 0)) ∧ Below w.heap.size w w' := by
  have HR := Lib.hid hr
  have HK := Lib.hid hk
  have HNL := Lib.hid hnl
  clear hr hk hnl
  obtain ⟨i0, hi, hz0, hz1, hz2⟩ := info_parts infoStr
  have HI := Lib.hid hi; have HZ0 := Lib.hid hz0; have HZ1 := Lib.hid hz1; have HZ2 := Lib.hid hz2
  clear hi hz0 hz1 hz2
  have hls := RE.len_sizes ks
  have ho2' : ¬ (o : Int) = 2 := by omega
  have hob : ((o : Int) == 2) = false := by simpa using ho2'
  obtain ⟨d, hd⟩ : ∃ d : UInt8, d = (48 + o).toUInt8 := ⟨_, rfl⟩
  have hIt := Itoa_op o ho
  rw [← hd] at hIt
  have HIT := Lib.hid hIt
  have HD := Lib.hid hd
  clear hIt hd
  go_enter Tryz.func74, Tryz.ntmps74
  go_wp2_with (go_at_call 118; refine (HIT.out _).mono ?_; rintro e w' ⟨rfl, rfl⟩)
  go_loopw [10, 38] (fun v i wr => MadeAt w (w.heap.size + 1) o ⟨s0, s1, s2, s3⟩ kp ks cap nl v i wr) (fun _ i _ => ks.length - (intOf i).toNat)
  case atStart =>
    refine ⟨0, by omega, rfl, ?_, ?_, ?_, ?_, by omega⟩
    · have hp : RE.parts o ⟨s0, s1, s2, s3⟩ (RE.keys (ks.take 0)) = [[d]] := by rw [HD.out]; simp [RE.parts, RE.keys, ho2]
      rw [hp]
      have hl := World.ownsRow_lit (base := w.heap.size) (e := 9) (size := 1) ((w.alloc (.cells #[.int .u64 (wN s0), .int .u64 (wN s1), .int .u64 (wN s2), .int .u64 (wN s3)] 112)).alloc (.cells (nodeOf o ⟨s0, s1, s2, s3⟩ kp ks.length cap nl [] 1) 115)) #[strV [d]] 1 (by simp; omega) (by unfold maxLen; omega) rfl
      rw [World.size_alloc, World.size_alloc] at hl
      exact hl
    · simp [Value.ownBlock]
    · refine ((re_alloc _ _).block (w.heap.size + 1) ?_).trans (heap_alloc2_new w _ _)
      simp
    · repeat (first | exact Below.refl _ _ | assumption | refine Below.drew ?_ | refine ext_drewN ?_ _ | refine ext_alloc ?_ _ | refine Below.setCell ?_ (by (try simp only [World.size_alloc, World.size_setCell, World.size_drew]); omega) _ | refine ext_step ?_ (by assumption))
  case round =>
    obtain ⟨k, hk, rfl, hW⟩ := hrel
    by_cases hlt : k < ks.length
    · obtain ⟨hbl, hkids⟩ := HK.out
      rcases HR.out with h0 | ⟨kb, ko, rfl, hrow⟩
      · rw [h0] at hbl; simp at hbl; omega
      have hptr : w.cell? ⟨kb, ko + k, none⟩ = some (.pointer (some ⟨bs.getD k 0, 0, none⟩)) := hrow k (by omega)
      have hkbl := World.block_lt_of_cell? w _ hptr
      rw [← hW.bel.cell (p := ⟨kb, ko + k, none⟩) hkbl] at hptr
      have hkid := hkids k hlt
      have HPS : Hid (RE.parts o ⟨s0, s1, s2, s3⟩ (RE.keys (ks.take (k + 1))) = RE.parts o ⟨s0, s1, s2, s3⟩ (RE.keys (ks.take k)) ++ [(ks.getD k RE.nothing).key]) := by
        show _ = _
        rw [RE.take_snoc ks k hlt, RE.keys_append, ← RE.parts_snoc]; rfl
      have HSZ : Hid (1 + RE.sizes (ks.take (k + 1)) = 1 + RE.sizes (ks.take k) + (ks.getD k RE.nothing).size) := by
        show _ = _
        rw [RE.take_snoc ks k hlt, RE.sizes_append]; simp [RE.sizes]; omega
      have hsz1 := RE.sizes_take ks (k + 1)
      have hpl : (RE.parts o ⟨s0, s1, s2, s3⟩ (RE.keys (ks.take k))).length ≤ 5 + ks.length := by
        simp [RE.parts, ho2, RE.keys_map]; omega
      have hsz2 := HSZ.out
      generalize RE.parts o ⟨s0, s1, s2, s3⟩ (RE.keys (ks.take k)) = ps at *
      generalize 1 + RE.sizes (ks.take k) = sz at *
      generalize ks.getD k RE.nothing = r at *
      generalize bs.getD k 0 = b at *
      obtain ⟨kp1, cap1, bs1, hnode, _, _⟩ := hkid.open
      have hbk := hkid.lt
      have hnode1 := (hW.bel.block b hbk).trans hnode
      have hkey : wr.cell? ⟨b, 7, none⟩ = some (.string ⟨r.key.toArray⟩) := by rw [cell_of_row _ _ _ _ _ _ hnode1]; rfl
      have hksz : wr.cell? ⟨b, 8, none⟩ = some (.int .i64 (r.size : Nat)) := by rw [cell_of_row _ _ _ _ _ _ hnode1]; rfl
      have hnsz : wr.cell? ⟨w.heap.size + 1, 8, none⟩ = some (.int .i64 (sz : Nat)) := by rw [cell_of_row _ _ _ _ _ _ hW.node]; rfl
      clear hsz2 hnode hnode1 hkid hkids hrow
      go_wp2_with (at_builtin; refine wpList_append_lies _ rfl _ _ _ rfl w.heap.size 9 i0 _ 1 16 Tryz.underlying23 HI.out HZ0.out HZ1.out HZ2.out rfl (by omega) u10 ps.length (ps.map strV) rfl (hW.own.alloc _) ⟨wr.heap.size, 0, none⟩ 1 1 [strV r.key] rfl rfl (World.news_of_block (cs := #[strV r.key]) (t := 9) (fr := (0, 0)) (heap_alloc_last wr _)) (strV_one [r.key]) (by omega) (by unfold maxLen; omega) (by omega) (by have := hW.bel.size; simp; omega) (wr.heap.size + 1) (by simp) ?_; intro g5 cp5 W9 hown9 hg9 hat9 hlt9)
      have hW9 := hW.appended (re_alloc wr _) (by omega) hown9 hg9 hat9
      have hb9 : W9.heap[b]? = wr.heap[b]? := by
        have h1 := hW.bel.size
        rw [hg9.block b (by simp; omega) (fun e => by have := (hW.own.lt b e.symm).1; omega), Below.heap_alloc _ _ _ (by omega)]
      obtain ⟨S, hS⟩ : ∃ S : World → Prop, ∀ W', S W' ↔ (W'.cell? ⟨w.heap.size + 1, 8, none⟩ = some (.int .i64 (sz : Nat)) ∧ W'.cell? ⟨b, 8, none⟩ = some (.int .i64 (r.size : Nat))) := ⟨_, fun _ => Iff.rfl⟩
      have HS := Lib.hid hS
      clear hS
      have cs : ∀ p : InC S, p.w.cell? ⟨w.heap.size + 1, 8, none⟩ = some (.int .i64 (sz : Nat)) ∧ p.w.cell? ⟨b, 8, none⟩ = some (.int .i64 (r.size : Nat)) := fun p => (HS.out p.w).1 p.h
      have hS0 : S W9.drew := (HS.out _).2 ⟨by show W9.cell? _ = _; rw [cell_of_row _ _ _ _ _ _ hW9.node]; rfl, by show W9.cell? _ = _; rw [World.cell?_of_block (w := wr) (a := ⟨b, 8, none⟩) hb9]; exact hksz⟩
      have hne : Nonempty (InC S) := ⟨⟨_, hS0⟩⟩
      clear hown9 hg9 hat9 hb9 hW hptr hkey hksz hnsz
      have hszr : sz + r.size ≤ 1099511627777 := by have := HSZ.out; omega
      have hfr : W9.frozen? ⟨w.heap.size + 1, 8, none⟩ = false := frozen_of_row _ _ _ _ _ hW9.node
      have hcc : W9.cell? ⟨w.heap.size + 1, 8, none⟩ = some (.int .i64 (sz : Nat)) := by rw [cell_of_row _ _ _ _ _ _ hW9.node]; rfl
      refine wp_region_mix S [0, 1, 2, 3, 4, 5, 6, 7, 8, 9, 10] [0, 1, 2, 3, 4, 5, 6, 7, 8, 9, 10, 11] (by kernel_rfl) (by kernel_rfl) hS0 ?_
      (repeat (refine wpMix_read rfl rfl ?_; go_big_quiet_step (fail); refine wpQuiet_nil ?_))
      refine wpMix_eff (k := false) rfl rfl (by kernel_rfl) ?_
      go_wp2_with fail
      refine mixPost_last (wpMix_nil ?_)
      have hW10 := (hW9.setSize (sz' := sz + r.size)).later (Below.refl _ _).drew
      rw [Int.natCast_add, ← HPS.out, ← HSZ.out] at hW10
      have HW10 := Lib.hid hW10
      clear hW10 hW9 hS0 hne cs hfr hcc
      go_wp2
      go_roundw
      case rel => exact ⟨k + 1, by omega, by go_num, HW10.out⟩
      case measure => simp [intOf]; omega
    · obtain rfl : k = ks.length := by omega
      rw [List.take_length] at hW
      have hjl := RE.join_len o ⟨s0, s1, s2, s3⟩ ks
      have hpn : 0 < (RE.parts o ⟨s0, s1, s2, s3⟩ (RE.keys ks)).length := by simp [RE.parts]
      have HKEY : Hid ((RE.node o ⟨s0, s1, s2, s3⟩ ks).key = [40] ++ Lib.join (RE.parts o ⟨s0, s1, s2, s3⟩ (RE.keys ks)) [32] ++ [41]) := by show _ = _; rw [RE.key]
      have hpl : (RE.parts o ⟨s0, s1, s2, s3⟩ (RE.keys ks)).length ≤ 5 + ks.length := by
        simp [RE.parts, ho2, RE.keys_map]; omega
      have HN : Hid (1 + RE.sizes ks = (RE.node o ⟨s0, s1, s2, s3⟩ ks).size) := by show _ = _; rw [RE.size]
      have hszn : 1 + RE.sizes ks ≤ 1099511627777 := by omega
      generalize RE.parts o ⟨s0, s1, s2, s3⟩ (RE.keys ks) = ps at *
      rcases hW.own.2 with ⟨_, h0⟩ | ⟨g, cp, cur, rfl, hgB, hgb, hnc, _, _, _⟩
      · omega
      have hJ := Join_any g 0 cp (ps.map fun l => ⟨l.toArray⟩) ⟨#[32]⟩ wr (fun j x hx => by
        rw [Nat.zero_add, hW.own.cellAt j (by have := (List.getElem?_eq_some_iff.1 hx).1; simpa using this)]
        simp at hx ⊢
        obtain ⟨y, h1, h2⟩ := hx
        exact ⟨y, h1, by rw [← h2]; rfl⟩) (Array.getElem?_eq_some_iff.1 hgb).1 (by simp; omega) (by simpa using hnc) (by simp [Function.comp_def]; omega)
      simp only [List.length_map, List.map_map, Function.comp_def, List.map_id'] at hJ
      generalize Lib.join ps [32] = jo at *
      have HJ := Lib.hid hJ
      clear hJ
      go_wp2_with fail
      refine HJ.out.mono ?_
      rintro e w1 ⟨rfl, hb1⟩
      have hW1 := hW.later hb1
      have hfr : w1.frozen? ⟨w.heap.size + 1, 7, none⟩ = false := frozen_of_row _ _ _ _ _ hW1.node
      have hcc : w1.cell? ⟨w.heap.size + 1, 7, none⟩ = some (.string ⟨#[]⟩) := by rw [cell_of_row _ _ _ _ _ _ hW1.node]; rfl
      go_wp2_with fail
      go_ret
      refine ⟨w.heap.size + 1, rfl, by omega, ?_, hW1.bel.setCell hW1.lo _⟩
      · rw [heap_setCell_same _ _ _ _ _ _ hW1.node]
        rw [show (⟨#[40]⟩ ++ ⟨jo.toArray⟩ ++ ⟨#[41]⟩ : ByteArray) = ⟨(RE.node o ⟨s0, s1, s2, s3⟩ ks).key.toArray⟩ by rw [HKEY.out]; exact ByteArray.ext (by simp)]
        unfold nodeCells
        rw [← HN.out, ← HNL.out]
        rfl
theorem FmtWord_any (x : BitVec 64) (w : World) : Calls Tryz.prog 119 #[.int .u64 (wN x), .int .i64 36] w fun e w' => e = .returned (.string ⟨(fmt36 x.toNat).toArray⟩) ∧ Below w.heap.size w w' := FormatUint_any x.toNat x.isLt w
def wordAt (s : BS) (k : Nat) : BitVec 64 := if k = 0 then s.a else if k = 1 then s.b else if k = 2 then s.c else s.d
theorem idxWord (s0 s1 s2 s3 : BitVec 64) (k : Nat) (h : k < 4) (w : World) : (Instr.index 112 (.agg #[.int .u64 (wN s0), .int .u64 (wN s1), .int .u64 (wN s2), .int .u64 (wN s3)]) (.int .i64 (k : Int))).run Tryz.prog w = .ok (.int .u64 (wN (wordAt ⟨s0, s1, s2, s3⟩ k))) w := by
  have i0 : ∀ w, (Instr.index 112 (.agg #[.int .u64 (wN s0), .int .u64 (wN s1), .int .u64 (wN s2), .int .u64 (wN s3)]) (.int .i64 0)).run Tryz.prog w = .ok (.int .u64 (wN s0)) w := fun _ => by kernel_rfl
  have i1 : ∀ w, (Instr.index 112 (.agg #[.int .u64 (wN s0), .int .u64 (wN s1), .int .u64 (wN s2), .int .u64 (wN s3)]) (.int .i64 1)).run Tryz.prog w = .ok (.int .u64 (wN s1)) w := fun _ => by kernel_rfl
  have i2 : ∀ w, (Instr.index 112 (.agg #[.int .u64 (wN s0), .int .u64 (wN s1), .int .u64 (wN s2), .int .u64 (wN s3)]) (.int .i64 2)).run Tryz.prog w = .ok (.int .u64 (wN s2)) w := fun _ => by kernel_rfl
  have i3 : ∀ w, (Instr.index 112 (.agg #[.int .u64 (wN s0), .int .u64 (wN s1), .int .u64 (wN s2), .int .u64 (wN s3)]) (.int .i64 3)).run Tryz.prog w = .ok (.int .u64 (wN s3)) w := fun _ => by kernel_rfl
  match k, h with
  | 0, _ => exact i0 w
  | 1, _ => exact i1 w
  | 2, _ => exact i2 w
  | 3, _ => exact i3 w
theorem words36_take (s : BS) (k : Nat) (h : k < 4) : (RE.words36 s).take (k + 1) = (RE.words36 s).take k ++ [fmt36 (wordAt s k).toNat] := by
  match k, h with
  | 0, _ => rfl
  | 1, _ => rfl
  | 2, _ => rfl
  | 3, _ => rfl
def ClsAt (w : World) (N : Nat) (s : BS) (nl : Bool) (v i : Value) (wr : World) : Prop :=
  ∃ k : Nat, k ≤ 4 ∧ i = .int .i64 k ∧ MadeW w N 2 s none 0 0 nl ([50] :: (RE.words36 s).take k) 1 v wr

set_option maxRecDepth 100000 in
set_option maxHeartbeats 4000000 in
theorem made_class (s0 s1 s2 s3 : BitVec 64) (w : World) :
    Calls Tryz.prog 74 #[.int .i64 2, .agg #[.int .u64 (wN s0), .int .u64 (wN s1), .int .u64 (wN s2), .int .u64 (wN s3)], .bool false, .slice none 0 0] w fun e w' => ∃ b, e = .returned (ptr b) ∧ w.heap.size ≤ b ∧ w'.heap[b]? = some (.cells (nodeCells (RE.node 2 ⟨s0, s1, s2, s3⟩ []) none 0) 115 (0, 0)) ∧ Below w.heap.size w w' := by
  obtain ⟨i0, hi, hz0, hz1, hz2⟩ := info_parts infoStr
  have HI := Lib.hid hi; have HZ0 := Lib.hid hz0; have HZ1 := Lib.hid hz1; have HZ2 := Lib.hid hz2
  clear hi hz0 hz1 hz2
  have HIT := Lib.hid (Itoa_op 2 (by omega))
  go_enter Tryz.func74, Tryz.ntmps74
  go_wp2_with (go_at_call 118; refine (HIT.out _).mono ?_; rintro e w' ⟨rfl, rfl⟩)
  go_loopw [10, 27] (fun v i wr => ClsAt w (w.heap.size + 1) ⟨s0, s1, s2, s3⟩ false v i wr) (fun _ i _ => 4 - (intOf i).toNat)
  case atStart =>
    refine ⟨0, by omega, rfl, ?_, ?_, ?_, ?_, by omega⟩
    · have hl := World.ownsRow_lit (base := w.heap.size) (e := 9) (size := 1) ((w.alloc (.cells #[.int .u64 (wN s0), .int .u64 (wN s1), .int .u64 (wN s2), .int .u64 (wN s3)] 112)).alloc (.cells (nodeOf 2 ⟨s0, s1, s2, s3⟩ none 0 0 false [] 1) 115)) #[strV [50]] 1 (by simp; omega) (by unfold maxLen; omega) rfl
      rw [World.size_alloc, World.size_alloc] at hl
      exact hl
    · simp [Value.ownBlock]
    · refine ((re_alloc _ _).block (w.heap.size + 1) ?_).trans (heap_alloc2_new w _ _)
      simp
    · repeat (first | exact Below.refl _ _ | assumption | refine Below.drew ?_ | refine ext_drewN ?_ _ | refine ext_alloc ?_ _ | refine Below.setCell ?_ (by (try simp only [World.size_alloc, World.size_setCell, World.size_drew]); omega) _ | refine ext_step ?_ (by assumption))
  case round =>
    obtain ⟨k, hk, rfl, hW⟩ := hrel
    by_cases hlt : k < 4
    · have hix := idxWord s0 s1 s2 s3 k hlt
      have HF := Lib.hid (FmtWord_any (wordAt ⟨s0, s1, s2, s3⟩ k))
      have HPS : Hid ([50] :: (RE.words36 ⟨s0, s1, s2, s3⟩).take (k + 1) = ([50] :: (RE.words36 ⟨s0, s1, s2, s3⟩).take k) ++ [fmt36 (wordAt ⟨s0, s1, s2, s3⟩ k).toNat]) := by
        show _ = _
        rw [words36_take _ k hlt]; rfl
      have hpl : (([50] : List UInt8) :: (RE.words36 ⟨s0, s1, s2, s3⟩).take k).length ≤ 5 := by simp; omega
      generalize [50] :: (RE.words36 ⟨s0, s1, s2, s3⟩).take k = ps at *
      generalize wordAt ⟨s0, s1, s2, s3⟩ k = x at *
      generalize fmt36 x.toNat = f at *
      go_wp2_with (first | (go_at_call 119; refine (HF.out _).mono ?_; rintro e w1 ⟨rfl, hb1⟩) | (at_builtin; refine wpList_append_lies _ rfl _ _ _ rfl w.heap.size 9 i0 _ 1 16 Tryz.underlying23 HI.out HZ0.out HZ1.out HZ2.out rfl (by omega) u10 ps.length (ps.map strV) rfl ((hW.later hb1).own.alloc _) ⟨w1.heap.size, 0, none⟩ 1 1 [strV f] rfl rfl (World.news_of_block (cs := #[strV f]) (t := 9) (fr := (0, 0)) (heap_alloc_last w1 _)) (strV_one [f]) (by omega) (by unfold maxLen; omega) (by omega) (by have := (hW.later hb1).bel.size; simp; omega) (w1.heap.size + 1) (by simp) ?_; intro g5 cp5 W9 hown9 hg9 hat9 hlt9))
      have hW9 := (hW.later hb1).appended (re_alloc w1 _) (by omega) hown9 hg9 hat9
      rw [← HPS.out] at hW9
      go_roundw
      case rel => exact ⟨k + 1, by omega, by go_num, hW9⟩
      case measure => simp [intOf]; omega
    · obtain rfl : k = 4 := by omega
      go_wp2_with fail
      refine wp_loop_rounds 1 ?_
      rw [rounds_succ]
      have hps : [50] :: (RE.words36 ⟨s0, s1, s2, s3⟩).take 4 = RE.parts 2 ⟨s0, s1, s2, s3⟩ (RE.keys []) := rfl
      rw [hps] at hW
      have hjl := RE.join_len 2 ⟨s0, s1, s2, s3⟩ []
      have hpn : 0 < (RE.parts 2 ⟨s0, s1, s2, s3⟩ (RE.keys [])).length := by simp [RE.parts]
      have HKEY : Hid ((RE.node 2 ⟨s0, s1, s2, s3⟩ []).key = [40] ++ Lib.join (RE.parts 2 ⟨s0, s1, s2, s3⟩ (RE.keys [])) [32] ++ [41]) := by show _ = _; rw [RE.key]
      have hpl : (RE.parts 2 ⟨s0, s1, s2, s3⟩ (RE.keys [])).length ≤ 5 := by simp [RE.parts, RE.words36, RE.keys_map]
      rw [show RE.sizes [] = 0 from rfl] at hjl
      clear hps
      generalize RE.parts 2 ⟨s0, s1, s2, s3⟩ (RE.keys []) = ps at *
      rcases hW.own.2 with ⟨_, h0⟩ | ⟨g, cp, cur, rfl, hgB, hgb, hnc, _, _, _⟩
      · omega
      have hJ := Join_any g 0 cp (ps.map fun l => ⟨l.toArray⟩) ⟨#[32]⟩ wr (fun j x hx => by
        rw [Nat.zero_add, hW.own.cellAt j (by have := (List.getElem?_eq_some_iff.1 hx).1; simpa using this)]
        simp at hx ⊢
        obtain ⟨y, h1, h2⟩ := hx
        exact ⟨y, h1, by rw [← h2]; rfl⟩) (Array.getElem?_eq_some_iff.1 hgb).1 (by simp; omega) (by simpa using hnc) (by simp [Function.comp_def]; omega)
      simp only [List.length_map, List.map_map, Function.comp_def, List.map_id'] at hJ
      generalize Lib.join ps [32] = jo at *
      have HJ := Lib.hid hJ
      clear hJ
      go_wp2_with fail
      refine HJ.out.mono ?_
      rintro e w1 ⟨rfl, hb1⟩
      have hW1 := hW.later hb1
      have hfr : w1.frozen? ⟨w.heap.size + 1, 7, none⟩ = false := frozen_of_row _ _ _ _ _ hW1.node
      have hcc : w1.cell? ⟨w.heap.size + 1, 7, none⟩ = some (.string ⟨#[]⟩) := by rw [cell_of_row _ _ _ _ _ _ hW1.node]; rfl
      go_wp2_with fail
      go_ret
      refine ⟨w.heap.size + 1, rfl, by omega, ?_, hW1.bel.setCell hW1.lo _⟩
      rw [heap_setCell_same _ _ _ _ _ _ hW1.node]
      rw [show (⟨#[40]⟩ ++ ⟨jo.toArray⟩ ++ ⟨#[41]⟩ : ByteArray) = ⟨(RE.node 2 ⟨s0, s1, s2, s3⟩ []).key.toArray⟩ by rw [HKEY.out]; exact ByteArray.ext (by simp)]
      rfl
end Go.Proofs.YticpjjmacmmpjaaGreatDoor
