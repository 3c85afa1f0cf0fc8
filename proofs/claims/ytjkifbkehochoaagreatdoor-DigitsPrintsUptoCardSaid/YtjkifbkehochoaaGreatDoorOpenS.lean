/- Arguments that are slices of strings, of integers, opened. -/
import Derived.Test.YtjkifbkehochoaaGreatDoorOpenF
import Derived.Test.YtjkifbkehochoaaGreatDoorDhN
import Derived.Deep.Strs
import Derived.KernelRfl
namespace Go.Proofs.YtjkifbkehochoaaGreatDoor
open Go.ChangeShapes Go.WideShapes Go.RowKit Go.Deep

theorem cells9 : Tryz.prog.cellsOf 9 = 1 := by kernel_rfl
theorem cells3 : Tryz.prog.cellsOf 3 = 1 := by kernel_rfl
theorem wf_i64 {z : Int} (h : (Lit.int .i64 z).wf = true) : -9223372036854775808 ≤ z ∧ z ≤ 9223372036854775807 := by
  simp [Lit.wf, IntKind.min, IntKind.max, IntKind.signed, IntKind.bits] at h; omega
section
variable {H : Type} {enc : TypeId × Value → H} {w : World} {r : Reach} {B0 : Nat}
set_option maxRecDepth 100000 in
theorem open_ss {v : Value} {d : DataW H} {p : List MemPlace} (hv : Value.okWide Tryz.prog w r B0 30 v) (h : DataW.Trod enc Tryz.prog w 0 (fun _ => true) true 30 v d p) :
    ∃ (A : Option Addr) (ss : List ByteArray) (c : Nat), v = .slice A ss.length c ∧ VR w A (SV ss) ∧ ss.length ≤ c ∧ c ≤ maxLen ∧ LenD d c ∧ ∀ s ∈ ss, s.size ≤ Rows.uptoBulk d := by
  obtain ⟨A, len, cap, rfl⟩ := okWide_slice Tryz.underlying30 hv
  obtain ⟨fuel, hf⟩ := h
  rcases open_strs Tryz.underlying30 Tryz.underlying9 cells9 hf with ⟨h1, h2⟩ | ⟨a, len', cap', m, Sx, h1, _, hl, hm, hmm, h2, hx⟩
  · simp [Value.cells] at h1
    obtain ⟨rfl, rfl, rfl⟩ := h1
    simp only [Prod.mk.injEq] at h2
    exact ⟨none, [], 0, rfl, .inl rfl, Nat.le_refl _, Nat.zero_le _, .inl ⟨h2.1, rfl⟩, (fun u hu => by cases hu)⟩
  · simp [Value.cells] at h1
    obtain ⟨rfl, rfl, rfl⟩ := h1
    simp only [if_true] at hmm
    subst hmm
    simp only [Prod.mk.injEq] at h2
    refine ⟨some a, (List.range len).map Sx, m, by rw [List.length_map, List.length_range], ?_, by rw [List.length_map, List.length_range]; exact hl, hm, .inr ⟨_, _, h2.1, by rw [List.length_map, List.length_map, List.length_range, List.length_range]; omega⟩, ?_⟩
    · by_cases h0 : len = 0
      · left; rw [h0]; rfl
      · right
        obtain ⟨b, o, s⟩ := a
        have hs : s = none := by simpa [Addr.add] using World.cell?_spot (hx 0 (by omega)).1
        subst hs
        have hadd : ∀ j, (⟨b, o, none⟩ : Addr).add j = ⟨b, o + j, none⟩ := fun j => by
          unfold Addr.add; split
          · rename_i h; rw [h]; rfl
          · rfl
        refine ⟨b, o, rfl, ?_, fun j v hj => ?_⟩
        · have := (hx 0 (by omega)).1
          rw [hadd] at this
          exact World.block_lt_of_cell? w _ this
        · unfold SV at hj
          rw [List.map_map, List.getElem?_map, Option.map_eq_some_iff] at hj
          obtain ⟨i, hi, rfl⟩ := hj
          obtain ⟨hlt, e⟩ := (List.getElem?_eq_some_iff.1 hi)
          rw [List.length_range] at hlt
          rw [List.getElem_range] at e
          subst e
          have := (hx j (by omega)).1
          rwa [hadd] at this
    · intro s hs
      obtain ⟨i, hi, rfl⟩ := List.mem_map.1 hs
      rw [h2.1]
      have h5 : (DataW.lit (.string (Sx i).data.toList) : DataW H) ∈ (List.range len).map (fun i => DataW.lit (.string (Sx i).data.toList)) := List.mem_map.2 ⟨i, hi, rfl⟩
      have h6 := bulks.part_le h5
      have h7 : Rows.uptoBulk (DataW.lit (.string (Sx i).data.toList) : DataW H) = (Sx i).size + 1 := by simp [Rows.uptoBulk]
      rw [h7] at h6
      have h8 : ∀ es sp : List (DataW H), Rows.uptoBulkAll es ≤ Rows.uptoBulk (.slice es sp) := fun es sp => by simp only [Rows.uptoBulk]; omega
      exact Nat.le_trans (Nat.le_trans (Nat.le_succ _) h6) (h8 _ _)
set_option maxRecDepth 100000 in
theorem open_zs {v : Value} {d : DataW H} {p : List MemPlace} (hv : Value.okWide Tryz.prog w r B0 38 v) (h : DataW.Trod enc Tryz.prog w 0 (fun _ => true) true 38 v d p) :
    ∃ (A : Option Addr) (zs : List Int) (c : Nat), v = .slice A zs.length c ∧ VR w A (ZV zs) ∧ zs.length ≤ c ∧ c ≤ maxLen ∧ LenD d c ∧ ∀ z ∈ zs, -9223372036854775808 ≤ z ∧ z ≤ 9223372036854775807 := by
  obtain ⟨A, vs, c, rfl, hcs, hl, hm, hd, hx, _⟩ := open_cells Tryz.underlying38 cells3 hv h
  obtain ⟨zs, rfl, hz⟩ := all_of (Value.int .i64) (fun z => -9223372036854775808 ≤ z ∧ z ≤ 9223372036854775807) vs (fun u hu => by
    obtain ⟨n, y, ht⟩ := hx u hu
    obtain ⟨z, e1, -, e3⟩ := DataW.trod_int Tryz.underlying3 ht
    have e4 : u = .int .i64 z := by simpa using e1
    exact ⟨z, e4, wf_i64 e3⟩)
  rw [List.length_map] at hl ⊢
  exact ⟨A, zs, c, rfl, hcs, hl, hm, hd, hz⟩
end
end Go.Proofs.YtjkifbkehochoaaGreatDoor
