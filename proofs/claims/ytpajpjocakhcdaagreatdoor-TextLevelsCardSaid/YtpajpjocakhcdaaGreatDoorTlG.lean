/-
  TextLevels, walked through the program.
-/
import Derived.Test.YtpajpjocakhcdaaGreatDoorTlF
import Derived.IntWalk
import Derived.Laws.IdiomStrings
import Derived.Deep.RegionWith
set_option linter.unusedSimpArgs false
set_option linter.unusedVariables false
set_option maxRecDepth 100000
set_option linter.unnecessarySimpa false
namespace Go.Proofs.YtpajpjocakhcdaaGreatDoor
open Go.RowKit
/-- whole numbers in a row -/
def IntsAt (w : World) (a : Option Addr) (xs : List Int) : Prop := xs = [] ∨ ∃ b off, a = some ⟨b, off, none⟩ ∧ ∀ i, i < xs.length → w.cell? ⟨b, off + i, none⟩ = some (.int .i64 (xs.getD i 0))
theorem IntsAt.later {w w1 : World} {a : Option Addr} {xs : List Int} (h : IntsAt w a xs) (hb : Below w.heap.size w w1) : IntsAt w1 a xs := by
  rcases h with h | ⟨b, off, ha, hc⟩
  · exact .inl h
  · refine .inr ⟨b, off, ha, fun i hi => ?_⟩
    have := World.block_lt_of_cell? w _ (hc i hi)
    rw [hb.cell (p := ⟨b, off + i, none⟩) this]; exact hc i hi
theorem IntsAt.of {w : World} {x : Addr} {l c : Nat} {zs : List Int} (hl : l ≤ c) (hz : zs.length = c) (hcell : ∀ i, i < zs.length → w.cell? (x.add i) = some (.int .i64 (zs.getD i 0))) : IntsAt w (some x) (zs.take l) ∧ (zs.take l).length = l := by
  have hlen : (zs.take l).length = l := by rw [List.length_take]; omega
  refine ⟨?_, hlen⟩
  by_cases h0 : l = 0
  · left; rw [h0]; rfl
  · obtain ⟨b, off, spot⟩ := x
    have hspot : spot = none := by simpa [Addr.add] using World.cell?_spot (hcell 0 (by omega))
    subst hspot
    refine .inr ⟨b, off, rfl, fun i hi => ?_⟩
    rw [hlen] at hi
    have hc := hcell i (by omega)
    rw [addr_at] at hc
    rw [hc, List.getD_eq_getElem?_getD, List.getD_eq_getElem?_getD, List.getElem?_take_of_lt (by omega)]
theorem alls_at (os : List Obj) : ∀ w : World, (∀ i, i < os.length → (os.foldl World.alloc w).heap[w.heap.size + i]? = os[i]?) ∧ Below w.heap.size w (os.foldl World.alloc w) := by
  induction os with
  | nil => intro w; exact ⟨fun i hi => absurd hi (by simp), Below.refl _ _⟩
  | cons o os ih =>
    intro w
    obtain ⟨h1, h2⟩ := ih (w.alloc o)
    have hs : (w.alloc o).heap.size = w.heap.size + 1 := by simp
    refine ⟨fun i hi => ?_, (re_alloc w o).trans (h2.mono (by rw [hs]; omega))⟩
    match i with
    | 0 =>
      show (List.foldl World.alloc (w.alloc o) os).heap[w.heap.size + 0]? = some o
      rw [Nat.add_zero, h2.block w.heap.size (by rw [hs]; omega)]
      exact heap_alloc_last w o
    | i + 1 =>
      have := h1 i (by simpa using hi)
      rw [hs] at this
      show (List.foldl World.alloc (w.alloc o) os).heap[w.heap.size + (i + 1)]? = os[i]?
      rw [← this]; congr 1; omega
theorem LvAt.first (w w2 : World) (c0 : Nat) (hB : Below w.heap.size w w2) (h0 : IsRe w2 c0 (TL.letR 0)) : ∃ sv og, LvAt w (fun j => w2.heap.size + (2 * j + 1)) (accV TL.V.first) sv og
    ((((((((w2.alloc (.cells #[ptr c0] 39)).alloc (.cells #[.slice (some ⟨w2.heap.size, 0, none⟩) 1 1] 61)).alloc (.cells #[] 39)).alloc (.cells #[.slice (some ⟨w2.heap.size + 1 + 1, 0, none⟩) 0 0] 61)).alloc (.cells #[] 39)).alloc (.cells #[.slice (some ⟨w2.heap.size + 1 + 1 + 1 + 1, 0, none⟩) 0 0] 61)).alloc (.cells #[] 39)).alloc (.cells #[.slice (some ⟨w2.heap.size + 1 + 1 + 1 + 1 + 1 + 1, 0, none⟩) 0 0] 61)) := by
  obtain ⟨os, hos⟩ : ∃ os : List Obj, os = [.cells #[ptr c0] 39, .cells #[.slice (some ⟨w2.heap.size, 0, none⟩) 1 1] 61, .cells #[] 39, .cells #[.slice (some ⟨w2.heap.size + 1 + 1, 0, none⟩) 0 0] 61, .cells #[] 39, .cells #[.slice (some ⟨w2.heap.size + 1 + 1 + 1 + 1, 0, none⟩) 0 0] 61, .cells #[] 39, .cells #[.slice (some ⟨w2.heap.size + 1 + 1 + 1 + 1 + 1 + 1, 0, none⟩) 0 0] 61] := ⟨_, rfl⟩
  obtain ⟨h1, h2⟩ := alls_at os w2
  have hW : os.foldl World.alloc w2 = ((((((((w2.alloc (.cells #[ptr c0] 39)).alloc (.cells #[.slice (some ⟨w2.heap.size, 0, none⟩) 1 1] 61)).alloc (.cells #[] 39)).alloc (.cells #[.slice (some ⟨w2.heap.size + 1 + 1, 0, none⟩) 0 0] 61)).alloc (.cells #[] 39)).alloc (.cells #[.slice (some ⟨w2.heap.size + 1 + 1 + 1 + 1, 0, none⟩) 0 0] 61)).alloc (.cells #[] 39)).alloc (.cells #[.slice (some ⟨w2.heap.size + 1 + 1 + 1 + 1 + 1 + 1, 0, none⟩) 0 0] 61)) := by rw [hos]; rfl
  rw [← hW]
  have hl : os.length = 8 := by rw [hos]; rfl
  generalize os.foldl World.alloc w2 = W at *
  have a0 := h1 0 (by omega); have a1 := h1 1 (by omega); have a2 := h1 2 (by omega); have a3 := h1 3 (by omega)
  have a4 := h1 4 (by omega); have a5 := h1 5 (by omega); have a6 := h1 6 (by omega); have a7 := h1 7 (by omega)
  rw [hos] at a0 a1 a2 a3 a4 a5 a6 a7
  have hBl := hB.size
  have em : ∀ g, W.heap[g]? = some (.cells #[] 39) → RowN W g ([] : List (Option RE)).length 0 [] := fun g h => ⟨h, rfl, Nat.le_refl _, by unfold maxLen; simp⟩
  refine ⟨fun j => .slice (some ⟨w2.heap.size + 2 * j, 0, none⟩) (if j = 0 then 1 else 0) (if j = 0 then 1 else 0), fun j => some (w2.heap.size + 2 * j), ?_⟩
  have hc : ∀ k, k < 4 → k = 0 ∨ k = 1 ∨ k = 2 ∨ k = 3 := fun k hk => by omega
  refine ⟨ext_step hB h2, fun k hk => ?_, fun k hk => ?_, fun k hk => ⟨by show w.heap.size ≤ w2.heap.size + (2 * k + 1); omega, fun g hg => by cases hg; omega⟩, fun j k hj hk hjk => ⟨by show w2.heap.size + (2 * j + 1) ≠ w2.heap.size + (2 * k + 1); omega, fun g hg e => by cases hg; have := Option.some.inj e; omega⟩⟩
  · rcases hc k hk with rfl | rfl | rfl | rfl
    · exact a1
    · exact a3
    · exact a5
    · exact a7
  · rcases hc k hk with rfl | rfl | rfl | rfl
    · refine LstV.row (W := W) (w2.heap.size + 2 * 0) 1 [some (TL.letR 0)] [ptr c0] ⟨a0, rfl, Nat.le_refl _, by unfold maxLen; simp⟩ fun i hi => ?_
      obtain rfl : i = 0 := by simpa using hi
      exact ⟨c0, rfl, h0.later (Nat.le_refl _) h2⟩
    · exact LstV.row (W := W) (w2.heap.size + 2 * 1) 0 [] [] (em _ a2) fun i hi => absurd hi (by simp)
    · exact LstV.row (W := W) (w2.heap.size + 2 * 2) 0 [] [] (em _ a4) fun i hi => absurd hi (by simp)
    · exact LstV.row (W := W) (w2.heap.size + 2 * 3) 0 [] [] (em _ a6) fun i hi => absurd hi (by simp)
theorem close3_any (w : World) (b : Nat → Nat) (v : TL.V) (n : Nat) (hg : TL.Good v n) (hn : n ≤ 13) (k : Nat) (hk : k ≤ 3) (W : World) (h : ∃ sv og, LvAt w b (accV v) sv og W) :
    Calls Tryz.prog 39 (#[.int .i64 (k : Int)] ++ #[ptr (b 1), ptr (b 0), ptr (b 2), ptr (b 3)]) W fun e W' => e = .returned (.tuple #[]) ∧ ∃ sv' og', LvAt w b (accV (v.close k)) sv' og' W' := by
  obtain ⟨sv, og, h⟩ := h
  have : k = 0 ∨ k = 1 ∨ k = 2 ∨ k = 3 := by omega
  rcases this with rfl | rfl | rfl | rfl
  · exact close3_0 w b v n hg hn sv og W h
  · exact close3_1 w b v n hg hn sv og W h
  · exact close3_2 w b v n hg hn sv og W h
  · exact close3_3 w b v n hg hn sv og W h
theorem acc_step (v : TL.V) (K i : Nat) : ∀ k, k < 4 → upd (accV (v.close K)) 0 (accV (v.close K) 0 ++ [some (TL.letR i)]) k = accV (v.step K i) k := fun k hk => by
  have : k = 0 ∨ k = 1 ∨ k = 2 ∨ k = 3 := by omega
  rcases this with rfl | rfl | rfl | rfl
  · exact (TL.vals_snoc _ (TL.letP i)).symm
  · rfl
  · rfl
  · rfl
theorem sep_len (K : Nat) : (TL.sep K).length ≤ 1 := by
  unfold TL.sep
  repeat' split
  all_goals simp
def LvLoop (w : World) (b : Nat → Nat) (n : Nat) (s i : Value) (wr : World) : Prop :=
  ∃ (k : Nat) (v : TL.V), k ≤ n ∧ i = .int .i64 k ∧ s = .string ⟨v.text.toArray⟩ ∧ TL.Good v (k + 1) ∧ v.text.length ≤ 2 * k + 1 ∧ ∃ sv og, LvAt w b (accV v) sv og wr
set_option maxRecDepth 100000 in
set_option maxHeartbeats 8000000 in
theorem TextLevels_any (a : Option Addr) (cap : Nat) (xs : List Int) (w : World) (hT : Tab w) (hx : IntsAt w a xs) (hm : xs.length ≤ maxLen) : Calls Tryz.prog 9 #[.slice a xs.length cap] w fun e w' => e = .returned (.bool true) ∧ Below w.heap.size w w' := by
  have HH := Lib.hid (txHead_any w hT)
  have HX := Lib.hid hx
  unfold maxLen at hm
  clear hT hx
  obtain ⟨n, hn⟩ : ∃ n, xs.length = n := ⟨_, rfl⟩
  rw [hn] at hm ⊢
  have HN := Lib.hid hn
  clear hn
  go_enter Tryz.func9, Tryz.ntmps9
  go_wp2_with fail
  refine HH.out.mono ?_
  rintro e w1 ⟨rfl, hb⟩
  have HB1 := Lib.hid hb
  clear hb HH
  by_cases h12 : 12 < n
  · have h12' : (12 : Int) < (n : Int) := by omega
    go_wp2_with fail
    go_ret
    exact ⟨rfl, HB1.out⟩
  · have h12' : decide ((12 : Int) < (n : Int)) = false := decide_eq_false (by omega)
    have h12n : n ≤ 12 := by omega
    go_wp2_with fail
    refine (tlLetter_any 0 (by omega) _).mono ?_
    rintro e w2 ⟨c0, rfl, h0, hb⟩
    have hfst := LvAt.first w w2 c0 (ext_step HB1.out hb) h0
    clear hb h0 HB1 h12
    go_wp2_with fail
    obtain ⟨W0, hW0⟩ : ∃ W0, W0 = ((((((((w2.alloc (.cells #[ptr c0] 39)).alloc (.cells #[.slice (some ⟨w2.heap.size, 0, none⟩) 1 1] 61)).alloc (.cells #[] 39)).alloc (.cells #[.slice (some ⟨w2.heap.size + 1 + 1, 0, none⟩) 0 0] 61)).alloc (.cells #[] 39)).alloc (.cells #[.slice (some ⟨w2.heap.size + 1 + 1 + 1 + 1, 0, none⟩) 0 0] 61)).alloc (.cells #[] 39)).alloc (.cells #[.slice (some ⟨w2.heap.size + 1 + 1 + 1 + 1 + 1 + 1, 0, none⟩) 0 0] 61)) := ⟨_, rfl⟩
    rw [← hW0] at hfst ⊢
    obtain ⟨b, hbe, hb0, hb1, hb2, hb3⟩ : ∃ b : Nat → Nat, (fun j => w2.heap.size + (2 * j + 1)) = b ∧ w2.heap.size + 1 = b 0 ∧ w2.heap.size + 1 + 1 + 1 = b 1 ∧ w2.heap.size + 1 + 1 + 1 + 1 + 1 = b 2 ∧ w2.heap.size + 1 + 1 + 1 + 1 + 1 + 1 + 1 = b 3 := ⟨_, rfl, rfl, rfl, rfl, rfl⟩
    rw [hbe] at hfst
    rw [hb3, hb2, hb1, hb0]
    have HF := Lib.hid hfst
    clear hfst hW0 hbe hb0 hb1 hb2 hb3
    go_loopw [4, 29] (fun s i wr => LvLoop w b n s i wr) (fun _ i _ => n - (intOf i).toNat)
    case atStart => exact ⟨0, TL.V.first, by omega, rfl, rfl, TL.good_first, by decide, HF.out⟩
    case round =>
      obtain ⟨k, v, hk, rfl, rfl, hgood, hlen, hlv⟩ := hrel
      have HG := Lib.hid hgood
      have HLV := Lib.hid hlv
      clear HF hgood hlv
      by_cases hlt : k < n
      · have hlt' : (k : Int) < (n : Int) := by omega
        rcases HX.out with hnil | ⟨B, off, rfl, hrow⟩
        · have := HN.out; rw [hnil] at this; simp at this; omega
        have hc := hrow k (by rw [HN.out]; exact hlt)
        have hbel : Below w.heap.size w wr := by obtain ⟨sv, og, h⟩ := HLV.out; exact h.bel
        rw [← hbel.cell (p := ⟨B, off + k, none⟩) (World.block_lt_of_cell? w _ hc)] at hc
        generalize xs.getD k 0 = o at *
        obtain ⟨hm1, hm2⟩ := lowN_eq o 3 (by omega)
        generalize lowN o 3 = K at *
        have hm1' : bits .and .i64 o 3 = (K : Nat) := hm1
        clear hm1 hbel hrow
        have HTS := Lib.hid (TL.text_step v K (k + 1))
        have HGS := Lib.hid (TL.good_step HG.out K (k + 1) (by omega))
        go_wp2_with fail
        refine (close3_any w b v (k + 1) HG.out (by omega) K hm2 _ HLV.out).mono ?_
        rintro e w5 ⟨rfl, hlv5⟩
        have HL5 := Lib.hid hlv5
        clear hlv5 hc
        have hu0 : IntKind.i64.wrap ((k : Int) + 1) = (k : Int) + 1 := IntWalk.i64_in _ (by omega)
        have hu1 : IntKind.u8.wrap ((k : Int) + 1) = (k : Int) + 1 := by
          have : k = 0 ∨ k = 1 ∨ k = 2 ∨ k = 3 ∨ k = 4 ∨ k = 5 ∨ k = 6 ∨ k = 7 ∨ k = 8 ∨ k = 9 ∨ k = 10 ∨ k = 11 := by omega
          rcases this with rfl | rfl | rfl | rfl | rfl | rfl | rfl | rfl | rfl | rfl | rfl | rfl <;> decide
        have hu2 : IntKind.u8.wrap (97 + ((k : Int) + 1)) = 97 + ((k : Int) + 1) := by
          have : k = 0 ∨ k = 1 ∨ k = 2 ∨ k = 3 ∨ k = 4 ∨ k = 5 ∨ k = 6 ∨ k = 7 ∨ k = 8 ∨ k = 9 ∨ k = 10 ∨ k = 11 := by omega
          rcases this with rfl | rfl | rfl | rfl | rfl | rfl | rfl | rfl | rfl | rfl | rfl | rfl <;> decide
        have hcv : ∀ (B : Nat) (W : World), W.cell? ⟨B, 0, none⟩ = some (.int .u8 (97 + ((k : Int) + 1))) → (convert 66 9 (.slice (some ⟨B, 0, none⟩) 1 1)).run Tryz.prog W = .ok (.string ⟨#[(97 + (k + 1)).toUInt8]⟩) W := fun B W h => by
          have e : (((97 + (k + 1)).toUInt8.toNat : Nat) : Int) = 97 + ((k : Int) + 1) := by
            have : (97 + (k + 1)).toUInt8.toNat = 97 + (k + 1) := by rw [Nat.toUInt8_eq, UInt8.toNat_ofNat']; omega
            omega
          exact run_convert_bytes_back W 66 9 5 ⟨B, 0, none⟩ 1 [(97 + (k + 1)).toUInt8] Tryz.underlying66 Tryz.underlying5 Tryz.underlying9 (fun j hj => by
            obtain rfl : j = 0 := by simpa using hj
            show W.cell? ((⟨B, 0, none⟩ : Addr).add 0) = _
            rw [addr_at, h]; simp only [List.getElem_cons_zero, e])
        generalize hch : (97 + (k + 1)).toUInt8 = ch at *
        have hK : K = 0 ∨ K = 1 ∨ K = 2 ∨ K = 3 := by omega
        go_upto_region 17 with fail
        go_cut [4, 29] from 29 to 59 (fun s4 s29 wx => s4 = .string ⟨(v.step K (k + 1)).text.toArray⟩ ∧ s29 = .int .i64 (k : Int) ∧ Below w5.heap.size w5 wx)
        case first =>
          have hl1 : ¬ 9223372036854775807 < v.text.length + 1 := by omega
          have hl2 : ¬ 9223372036854775807 < v.text.length + 1 + 1 := by omega
          have hl0 : ¬ 9223372036854775807 < v.text.length := by omega
          clear HLV HL5 HG HX
          rcases hK with rfl | rfl | rfl | rfl
          all_goals
            go_region_with (fail)
            all_goals
              go_wp2_with fail
              go_meet
              exact ⟨by rw [HTS.out]; exact congrArg Value.string (ByteArray.ext (by simp [TL.sep])), rfl, by repeat (first | exact Below.refl _ _ | assumption | refine Below.drew ?_ | refine ext_drewN ?_ _ | refine ext_alloc ?_ _ | refine Below.setCell ?_ (by (try simp only [World.size_alloc, World.size_setCell, World.size_drew]); omega) _ | refine ext_step ?_ (by assumption))⟩
        case rest =>
          obtain ⟨rfl, rfl, hbc⟩ := hcut
          obtain ⟨sv, og, hl6⟩ := HL5.out
          have hl7 := hl6.later hbc
          have HL7 := Lib.hid hl7
          have htl : (v.step K (k + 1)).text.length ≤ 2 * (k + 1) + 1 := by
            have := sep_len K
            rw [HTS.out, List.length_append, List.length_append, List.length_singleton]; omega
          have HTL := Lib.hid htl
          clear htl
          have cs := HL7.out.get 0 (by omega)
          obtain ⟨S, hS⟩ : ∃ S : World → Prop, ∀ W', S W' ↔ W'.cell? ⟨b 0, 0, none⟩ = some (sv 0) := ⟨_, fun _ => Iff.rfl⟩
          have HS := Lib.hid hS
          have HSL : Hid (∀ W', Below wc.heap.size wc W' → S W') := fun W' hb => (HS.out _).2 ((hb.cell (p := ⟨b 0, 0, none⟩) (HL7.out.lt 0 (by omega))).trans cs)
          have cp : ∀ q : InC S, q.w.cell? ⟨b 0, 0, none⟩ = some (sv 0) := fun q => (HS.out q.w).1 q.h
          have HD : Hid (Below wc.heap.size wc wc.drew) := (Below.refl _ _).drew
          have hne : Nonempty (InC S) := ⟨⟨_, HSL.out _ HD.out⟩⟩
          have HLET := Lib.hid (fun W => tlLetter_any (k + 1) (by omega) W)
          have hcast : ((k + 1 : Nat) : Int) = (k : Int) + 1 := by omega
          rw [hcast] at HLET
          have HLN : Hid ((accV (v.close K) 0).length + 1 ≤ 1099511627776) := by
            show _ ≤ _
            have h1 := HGS.out
            have h2 := (TL.sizeOs_vals ((v.step K (k + 1)).C) 1 fun p hp => ⟨by have := (h1.c p hp).2.2.2; omega, h1.pos p (by simp [hp])⟩).2
            have h3 := h1.cnt
            have h4 : (v.step K (k + 1)).C = (v.close K).C ++ [TL.letP (k + 1)] := rfl
            rw [h4, List.length_append, List.length_singleton] at h2
            have h5 : (accV (v.close K) 0).length = (v.close K).C.length := by show (PS.vals (v.close K).C).length = _; simp [PS.vals]
            rw [← h4] at h2
            omega
          clear hS hl6 hl7 hbc cs hcast HL5 HLV hK hu1 hu2 hcv hch
          go_wp2_with fail
          refine wp_region_mix S [0, 1, 2, 3] [0, 1, 2, 3, 4, 5, 6, 7] (by kernel_rfl) (by kernel_rfl) (HSL.out _ HD.out) ?_
          (repeat ((with_reducible refine wpMix_read (o := ?_) ?_ ?_ ?_); rotate_left; (· rfl); (· rfl); go_big_quiet_step (fail); (with_reducible refine wpQuiet_nil ?_)))
          refine wpMix_eff (k := true) rfl rfl (by kernel_rfl) ?_
          go_wp2_with fail
          refine (HLET.out _).mono ?_
          rintro e wa ⟨rb, rfl, hm5, hb5⟩
          have HBa := Lib.hid (ext_step HD.out hb5)
          have HMa := Lib.hid hm5
          clear hm5 hb5
          go_wp2_with fail
          refine mixPost_keep (HSL.out _ HBa.out) ?_
          refine wpMix_eff (k := true) rfl rfl (by kernel_rfl) ?_
          go_wp2_with fail
          have HBb : Hid (Below wc.heap.size wc (wa.alloc (.cells #[ptr rb] 39))) := ext_alloc HBa.out _
          refine mixPost_keep (HSL.out _ HBb.out) ?_
          have HLb := Lib.hid (HL7.out.later HBb.out)
          have HMb : Hid (IsReO (wa.alloc (.cells #[ptr rb] 39)) (ptr rb) (some (TL.letR (k + 1)))) := ⟨rb, rfl, HMa.out.later (Nat.le_refl _) (re_alloc wa _)⟩
          have HC : Hid ((wa.alloc (.cells #[ptr rb] 39)).cell? ⟨wa.heap.size, 0, none⟩ = some (ptr rb)) := by show _ = _; rw [cell_of_row _ _ _ _ _ _ (heap_alloc_last wa _)]; rfl
          have hln := HLN.out
          refine wpMix_eff (k := false) rfl rfl (by kernel_rfl) ?_
          go_wp2_with (at_builtin; refine wpList_append_lst rfl _ _ rfl (sv 0) (ptr rb) (accV (v.close K) 0) (some (TL.letR (k + 1))) (og 0) wa.heap.size 1 rfl rfl (HLb.out.lst 0 (by omega)) HMb.out HC.out rfl hln ?_; intro g' n' c' wd h1 h2 h3 h4)
          have HLc := Lib.hid ((HLb.out.app 0 (by omega) h1 h2 h3 h4).ext (acc_step v K (k + 1)))
          have kd := HLb.out.kept_get 0 0 (by omega) (by omega) h2
          have kf := HLb.out.kept_frz 0 0 (by omega) (by omega) h2
          clear h1 h2 h3 h4 hln
          go_wp2_with fail
          refine mixPost_last ?_
          refine wpMix_eff (k := false) rfl rfl (by kernel_rfl) ?_
          go_wp2_with fail
          refine mixPost_last ?_
          refine wpMix_nil ?_
          clear cp hne
          go_wp2_with fail
          go_roundw
          case rel => exact ⟨k + 1, v.step K (k + 1), by omega, by go_num, rfl, HGS.out, HTL.out, _, _, HLc.out⟩
          case measure => simp [intOf]; omega
      · obtain rfl : k = n := by omega
        have hlt' : ¬ (k : Int) < (k : Int) := by omega
        obtain ⟨r1, r2, r3, r4⟩ := TL.levels_read HG.out (by omega) (by omega)
        have hln : v.text.length ≤ 1099511627776 := by omega
        have HRD : Hid (∀ W, Calls Tryz.prog 28 #[.string ⟨v.text.toArray⟩] W (ReadPost W (some (RE.anyL v.all), 0, 0))) := fun W => by
          have := Read_any v.text hln W
          rw [r1] at this; exact this
        have HAN : Hid (∀ W kp cap, ListO W kp v.all → Calls Tryz.prog 43 #[.slice kp v.all.length cap] W (RePost W (RE.anyL v.all))) := fun W kp cap hl =>
          Any_any kp cap v.all W hl r2 (by have := RE.sizes_flat 4 v.all; omega) (by omega)
        have hsm : sameB (some (RE.anyL v.all)) (some (RE.anyL v.all)) = true := decide_eq_true rfl
        have HSM := Lib.hid (fun W u u' (h : IsReO W u (some (RE.anyL v.all))) (h' : IsReO W u' (some (RE.anyL v.all))) => Same_any u u' _ _ W h h')
        rw [hsm] at HSM
        clear r1 r2 r3 r4 hln hsm hlen
        go_wp2_with fail
        refine (close3_any w b v (k + 1) HG.out (by omega) 0 (by omega) _ HLV.out).mono ?_
        rintro e w5 ⟨rfl, hlv5⟩
        obtain ⟨sv, og, hl5⟩ := hlv5
        have HL5 := Lib.hid hl5
        obtain ⟨kp, cp, hsv, hlo⟩ := (show LstV w5 (sv 3) v.all (og 3) from hl5.lst 3 (by omega)).listO
        have c3 := HL5.out.get 3 (by omega)
        rw [hsv] at c3
        have HLO := Lib.hid hlo
        clear hl5 hsv hlo HLV
        generalize v.all = L at *
        generalize v.text = T at *
        go_wp2_with fail
        refine (HRD.out _).mono ?_
        rintro e w6 ⟨u, rfl, hre, hb⟩
        have HB6 := Lib.hid (ext_step HL5.out.bel hb)
        have HX6 := Lib.hid hre
        have c3' := (hb.cell (p := ⟨b 3, 0, none⟩) (HL5.out.lt 3 (by omega))).trans c3
        have HLO6 := Lib.hid (listO_later HLO.out hb)
        obtain ⟨vb, rfl, _⟩ := hre
        clear hb c3
        go_wp2_with fail
        refine (HAN.out _ _ _ HLO6.out).mono ?_
        rintro e w7 ⟨b7, rfl, h7, hb⟩
        have HB7 := Lib.hid (ext_step HB6.out hb)
        have HX7 := Lib.hid (HX6.out.later hb)
        have HY7 : Hid (IsReO w7 (ptr b7) (some (RE.anyL L))) := ⟨b7, rfl, h7⟩
        clear hb h7 c3'
        go_wp2_with fail
        refine (HSM.out _ _ _ HX7.out HY7.out).mono ?_
        rintro e w8 ⟨rfl, rfl⟩
        go_wp2_with fail
        go_ret
        exact ⟨rfl, HB7.out⟩
end Go.Proofs.YtpajpjocakhcdaaGreatDoor
