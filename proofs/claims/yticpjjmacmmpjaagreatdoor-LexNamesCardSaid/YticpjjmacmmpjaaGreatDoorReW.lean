/-
  Lists of expressions put in order, each once, walked through the program: the library's sort, what stands twice struck.
-/
import Derived.Test.YticpjjmacmmpjaaGreatDoorReV
set_option linter.unusedSimpArgs false
set_option linter.unusedVariables false
set_option maxRecDepth 100000
set_option linter.unnecessarySimpa false
namespace Go.Proofs.YticpjjmacmmpjaaGreatDoor
open Go.RowKit Go.Sort Go.Lib

theorem swo_cmpK : SWO (ltOf fun x y : List UInt8 => cmpK x y) := by
  have h : ∀ x y : List UInt8, ltOf (fun x y => cmpK x y) x y = Sort.ltStr x y := fun x y => by
    unfold ltOf cmpK ltStr
    by_cases h1 : x < y
    · simp [h1]
    · by_cases h2 : y < x <;> simp [h1, h2]
  exact ⟨fun x => by rw [h]; exact swo_ltStr.irrefl x, fun x y z => by rw [h, h, h]; exact swo_ltStr.trans x y z, fun x y z => by rw [h, h, h]; exact swo_ltStr.ntrans x y z⟩
/-- an expression of a row, as it may be sorted -/
abbrev SE (g : Nat) (w : World) := { q : Nat × RE // IsReX (· = g) w q.1 q.2 }
def encS {g : Nat} {w : World} (x : SE g w) : Value := ptr x.1.1
def cfS {g : Nat} {w : World} (x y : SE g w) : Int := cmpK x.1.2.key y.1.2.key
theorem swo_cfS {g : Nat} {w : World} : SWO (ltOf (cfS (g := g) (w := w))) :=
  ⟨fun x => swo_cmpK.irrefl x.1.2.key, fun x y z => swo_cmpK.trans x.1.2.key y.1.2.key z.1.2.key, fun x y z => swo_cmpK.ntrans x.1.2.key y.1.2.key z.1.2.key⟩
theorem ltOf_cfS {g : Nat} {w : World} (x y : SE g w) (h : ltOf cfS x y = false) : ¬ x.1.2.key < y.1.2.key := fun hl => by
  unfold ltOf cfS cmpK at h
  rw [if_pos hl] at h
  exact absurd h (by decide)
theorem cmpLaysS {g : Nat} {w : World} [Inhabited (SE g w)] (off size : Nat) : CmpLays1 Tryz.prog 166 #[] (encS (g := g) (w := w)) cfS g off size w := fun m os dk hs x y => by
  have hx : ∀ x : SE g w, IsRe (sortWorld encS w g off m dk os) x.1.1 x.1.2 := fun x => by
    refine (x.2.keep fun k hk hne => ?_).is
    show (grow (putRow encS (Sort.ahead w m) g off dk) os).heap[k]? = _
    unfold grow
    show ((putRow encS (Sort.ahead w m) g off dk).heap ++ os)[k]? = _
    rw [Array.getElem?_append_left (by rw [size_putRow]; exact hk)]
    exact putRow_block encS w m g off dk k hne
  refine (cmpRe_any x.1.1 y.1.1 x.1.2 y.1.2 _ (hx x) (hx y)).mono fun e w' h => ?_
  obtain ⟨he, n, hw⟩ := h
  exact ⟨he, n, #[], by rw [hw, grow_empty]⟩
set_option maxHeartbeats 1600000 in
theorem Sort_any (g cap : Nat) (bs : List Nat) (ls : List RE) (w wr : World) (h : OwnRe w ls bs (.slice (some ⟨g, 0, none⟩) ls.length cap) wr) (hne : ls ≠ []) (hsz : ls.length ≤ 1099511627776) :
    Calls Tryz.prog 165 #[.slice (some ⟨g, 0, none⟩) ls.length cap, .func (.func 166) #[] #[]] wr fun e w' => e = .returned (.tuple #[]) ∧ ∃ L : List (Nat × RE), L.Perm (bs.zip ls) ∧ (∀ i j, i < j → j < L.length → ¬ (L.getD j (0, RE.nothing)).2.key < (L.getD i (0, RE.nothing)).2.key) ∧ OwnRe w (L.map Prod.snd) (L.map Prod.fst) (.slice (some ⟨g, 0, none⟩) ls.length cap) w' := by
  obtain ⟨g', cap', e1, hcap, hg, hQ⟩ := h.rowQ hne
  simp only [Value.slice.injEq, Option.some.injEq, Addr.mk.injEq] at e1
  obtain ⟨⟨rfl, _, _⟩, e2, rfl⟩ := e1
  have hl := h.are.1
  have hps : ∀ q ∈ bs.zip ls, IsReX (· = g) wr q.1 q.2 := fun q hq => by
    obtain ⟨q', e, hx⟩ := hQ.2 (some q) (by simpa using hq)
    cases e; exact hx
  have hpos : 0 < (bs.zip ls).length := by have := List.length_pos_iff.2 hne; simp; omega
  generalize hps0 : bs.zip ls = ps at *
  have hplen : ps.length = ls.length := by rw [← hps0]; simp; omega
  haveI : Inhabited (SE g wr) := ⟨⟨ps[0], hps _ (List.getElem_mem hpos)⟩⟩
  obtain ⟨dS, hdS⟩ : ∃ dS : Array (SE g wr), dS.toList.map (·.1) = ps := ⟨(ps.attach.map fun q => ⟨q.1, hps q.1 q.2⟩).toArray, by
    simp only [List.map_map]
    exact List.attach_map_subtype_val ps⟩
  have hdn : dS.size = ls.length := by rw [← hplen, ← hdS]; simp
  have hdj : ∀ j, j < dS.size → encS dS[j]! = encQ ((ps.map some).toArray)[j]! := fun j hj => by
    have hj' : j < ps.length := by omega
    rw [getElem!_pos dS j hj, getElem!_pos _ j (by simpa using hj')]
    have : ps[j] = dS[j].1 := by simp [← hdS]
    simp [encQ, encS, this]
  have hH : Holds encS wr g 0 dS := fun j hj => by
    rw [hdj j hj]
    exact hQ.1 j (by simp; omega)
  have eg : ∀ args w, (callFunc 166 args).run Tryz.prog w = .ok (.enter 166 args) w := enters_of Tryz.func166 (by kernel_rfl) rfl
  have hs := Any.slices_SortFunc Tryz.laysSort encS (fun _ => rfl) cfS swo_cfS 166 #[] g 0 cap dS wr eg (cmpLaysS 0 dS.size) hH hg (by omega)
  rw [hdn] at hs
  change Calls Tryz.prog 165 _ _ _ at hs
  refine hs.mono fun e w' hh => ?_
  obtain ⟨he, d', n, os, hperm, hsorted, hw⟩ := hh
  rw [← hdn] at hperm hsorted
  have hd'n : d'.size = ls.length := by rw [← hdn]; exact hperm.1
  have hpl : d'.toList.Perm dS.toList := by
    have := hperm.2.2
    rwa [show d'.extract 0 dS.size = d' by rw [← hperm.1]; simp, show dS.extract 0 dS.size = dS by simp] at this
  refine ⟨he, d'.toList.map (·.1), ?_, ?_, ?_⟩
  · rw [← hdS]; exact hpl.map _
  · intro i j hij hj
    have hj' : j < d'.size := by simpa using hj
    have hi' : i < d'.size := by omega
    have := ltOf_cfS _ _ (hsorted i j (Nat.zero_le _) hij (by omega))
    rw [getElem!_pos d' j hj', getElem!_pos d' i hi'] at this
    simpa [List.getD, hj', hi'] using this
  · have e1 : (d'.toList.map (·.1)).map Prod.snd = (d'.toList.map fun x => some x.1).map treeQ := by rw [List.map_map, List.map_map]; rfl
    have e2 : (d'.toList.map (·.1)).map Prod.fst = (d'.toList.map fun x => some x.1).map blkQ := by rw [List.map_map, List.map_map]; rfl
    rw [e1, e2]
    have hlen : (d'.toList.map fun x => (some x.1 : QE)).length = ls.length := by simpa using hd'n
    rw [← hlen]
    rcases h.own.2 with ⟨h1, _⟩ | ⟨g', cap', cur', e3, hgB, hgb, hnc, h4, h5, h6⟩
    · cases h1
    · simp only [Value.slice.injEq, Option.some.injEq, Addr.mk.injEq] at e3
      obtain ⟨⟨rfl, _, _⟩, e4, rfl⟩ := e3
      refine h.again _ (fun x hx => ?_) (by rw [hlen]; omega) (cur := putCells encS 0 d' cur') ?_ (by simp [putCells]; omega) ?_ ?_
      · obtain ⟨y, hy, rfl⟩ := List.mem_map.1 hx
        exact ⟨y.1, rfl, y.2⟩
      · rw [hw]
        show ((putRow encS (Sort.ahead wr n) g 0 d').heap ++ os)[g]? = _
        rw [Array.getElem?_append_left (by rw [size_putRow]; exact hg)]
        exact putRow_at encS wr n g d' hgb
      · rw [putCells_take _ _ _ _ (by rw [hlen]; omega) (by omega), List.take_of_length_le (by simp), List.map_map]
        rfl
      · rw [hw]
        refine ⟨rfl, rfl, rfl, ?_, fun k hk hne => ?_⟩
        · show _ ≤ ((putRow encS (Sort.ahead wr n) g 0 d').heap ++ os).size
          rw [Array.size_append, size_putRow]; exact Nat.le_add_right wr.heap.size os.size
        · show ((putRow encS (Sort.ahead wr n) g 0 d').heap ++ os)[k]? = _
          rw [Array.getElem?_append_left (by rw [size_putRow]; exact hk)]
          exact putRow_block encS wr n g 0 d' k (fun e => hne (by rw [e]))
theorem CompactFunc_short (kp : Option Addr) (n cap : Nat) (hn : n < 2) (fv : Value) (w : World) :
    Calls Tryz.prog 168 #[.slice kp n cap, fv] w fun e w' => e = .returned (.slice kp n cap) ∧ w = w' := by
  go_enter Tryz.func168, Tryz.ntmps168
  go_wp2_with fail
  go_ret
  exact ⟨rfl, rfl⟩
theorem kept_map (n : Nat) (d : Array QE) (hn : d.size = n) (kp : Nat → Bool) : (keptUpTo kp d n).map treeQ = ((List.range n).filter kp).map fun j => treeQ d[j]! := by
  unfold keptUpTo
  rw [List.map_map]; rfl
def UniqPost (w : World) (ls : List RE) (e : Ending) (w' : World) : Prop := ∃ v bs, e = .returned v ∧ OwnRe w (RE.uniq ls) bs v w'
theorem unique_any (v : Value) (bs : List Nat) (ls : List RE) (w wr : World) (h : OwnRe w ls bs v wr) (hwf : ∀ r ∈ ls, RE.wf r) (hsz : ls.length ≤ 1099511627776) :
    Calls Tryz.prog 152 #[v] wr (UniqPost w ls) := by
  by_cases hne : ls = []
  · subst hne
    obtain ⟨kp, cap, rfl, hrow, _⟩ := h.row
    have HS := Lib.hid (fun fv W => AnyF.slices_SortFunc_none { Tryz.laysSort with } kp cap fv W)
    have HC := Lib.hid (CompactFunc_short kp 0 cap (by omega))
    have HE : Hid (UniqPost w [] (.returned (.slice kp 0 cap)) wr) := ⟨_, bs, rfl, by simpa [RE.uniq] using h⟩
    clear h hrow hwf
    go_enter Tryz.func152, Tryz.ntmps152
    go_wp2_with fail
    refine (HS.out _ _).mono ?_
    rintro e w' ⟨rfl, rfl⟩
    go_wp2_with fail
    refine (HC.out _ _).mono ?_
    rintro e w' ⟨rfl, rfl⟩
    go_wp2_with fail
    go_ret
    exact HE.out
  · obtain ⟨g, cap, rfl, hcap, hg, hQ⟩ := h.rowQ hne
    have HS := Lib.hid (Sort_any g cap bs ls w wr h hne hsz)
    have HWF := Lib.hid hwf
    have hl := h.are.1
    have HN := Lib.hid hne
    clear h hQ hwf hg
    go_enter Tryz.func152, Tryz.ntmps152
    go_wp2_with fail
    refine HS.out.mono ?_
    rintro e w1 ⟨rfl, L, hperm, hsorted, hO⟩
    have hLn : L.length = ls.length := by rw [hperm.length_eq]; simp; omega
    have hLne : L ≠ [] := fun e => HN.out (List.length_eq_zero_iff.1 (by rw [← hLn, e]; rfl))
    have hO2 : OwnRe w (L.map Prod.snd) (L.map Prod.fst) (.slice (some ⟨g, 0, none⟩) (L.map Prod.snd).length cap) w1 := by rw [List.length_map, hLn]; exact hO
    obtain ⟨g', cap', e1, _, hg1, hQ1⟩ := hO2.rowQ (by simpa using hLne)
    simp only [Value.slice.injEq, Option.some.injEq, Addr.mk.injEq] at e1
    obtain ⟨⟨rfl, _, _⟩, e2, rfl⟩ := e1
    have hzip : (L.map Prod.fst).zip (L.map Prod.snd) = L := by simp [List.zip_map']
    rw [hzip] at hQ1
    have hds : ((L.map some).toArray : Array QE).size = ls.length := by simpa using hLn
    have hcf := CompactFunc_any g 0 cap (L.map some).toArray w1 hQ1 (by omega) (by omega)
    rw [hds] at hcf
    have HCF := Lib.hid hcf
    have HO2 := Lib.hid hO2
    have HPM := Lib.hid hperm
    have HSD := Lib.hid hsorted
    clear hcf hO2 hO hperm hsorted hQ1 hg1
    go_wp2_with fail
    refine HCF.out.mono ?_
    intro e w2 hp
    have hwL : ∀ j, j < ls.length → RE.wf (treeQ ((L.map some).toArray : Array QE)[j]!) := fun j hj => by
      rw [getElem!_pos _ j (by rw [hds]; exact hj)]
      have h1 : L[j] ∈ bs.zip ls := HPM.out.mem_iff.1 (List.getElem_mem (by omega))
      have := HWF.out _ (List.of_mem_zip h1).2
      simpa [treeQ] using this
    have hdj : ∀ j, (hj : j < ls.length) → treeQ ((L.map some).toArray : Array QE)[j]! = (L.getD j (0, RE.nothing)).2 := fun j hj => by
      rw [getElem!_pos _ j (by rw [hds]; exact hj)]
      have : j < L.length := by omega
      simp [treeQ, List.getD, this]
    have hK := RE.uniq_kept ls.length (fun j => treeQ ((L.map some).toArray : Array QE)[j]!) (keepQ (L.map some).toArray) hwL (fun i j hij hj => by
      rw [hdj i (by omega), hdj j hj]; exact HSD.out i j hij (by omega)) rfl (fun j h0 hj => by unfold keepQ; rw [if_neg (by omega)])
    have hmap : (List.range ls.length).map (fun j => treeQ ((L.map some).toArray : Array QE)[j]!) = L.map Prod.snd := by
      apply List.ext_getElem
      · simp; omega
      · intro i h1 h2
        have hi : i < ls.length := by simpa using h1
        have hi2 : i < L.length := by omega
        simp only [List.getElem_map, List.getElem_range]
        rw [hdj i hi]; simp [List.getD, hi2]
    rw [hmap] at hK
    have hLw : ∀ x ∈ L.map Prod.snd, RE.wf x := fun x hx => by
      obtain ⟨q, hq, rfl⟩ := List.mem_map.1 hx
      exact HWF.out _ (List.of_mem_zip (HPM.out.mem_iff.1 hq)).2
    have hU : RE.uniq (L.map Prod.snd) = RE.uniq ls := by
      refine RE.uniq_of (RE.uniq_spec hLw).1 HWF.out fun r => ((RE.uniq_spec hLw).2 r).trans ?_
      have hz : (bs.zip ls).map Prod.snd = ls := List.map_snd_zip (by omega)
      have := (HPM.out.map Prod.snd).mem_iff (a := r)
      rwa [hz] at this
    have hfin := HO2.out.left (by simpa using hLne) (L := keptUpTo (keepQ (L.map some).toArray) (L.map some).toArray ls.length) (fun x hx => by
      rw [hzip]
      unfold keptUpTo at hx
      obtain ⟨j, hj, rfl⟩ := List.mem_map.1 hx
      have hj' : j < ls.length := by simpa using (List.mem_filter.1 hj).1
      rw [getElem!_pos _ j (by rw [hds]; exact hj')]
      simp) (by
      unfold keptUpTo
      rw [List.length_map, List.length_map, hLn]
      exact Nat.le_trans (List.length_filter_le _ _) (by simp)) (by rw [hzip]; simpa using hp)
    obtain ⟨rfl, hF⟩ := hfin
    rw [kept_map _ _ hds, hK, hU] at hF
    have HF := Lib.hid hF
    clear hF hK hp
    go_wp2_with fail
    go_ret
    exact ⟨_, _, rfl, HF.out⟩
end Go.Proofs.YticpjjmacmmpjaaGreatDoor
