/- Rows of words of 32 bits in memory; galleyref03.trim. Rows of words that a call makes: one more word behind them. -/
import Derived.Test.YtjkifbkehochoaaGreatDoorMgDhK
import Derived.Test.YtjkifbkehochoaaGreatDoorMgLgE
import Derived.Test.YtjkifbkehochoaaGreatDoorMgDhD
import Derived.Deep.AppendLies
namespace Go.Proofs.YtjkifbkehochoaaGreatDoor.R
open Go.RowKit Fl

/-- a row of words in memory -/
def NA (w : World) (b o : Nat) (l : List Nat) : Prop := b < w.heap.size ∧ ∀ j x : Nat, l[j]? = some x → w.cell? ⟨b, o + j, none⟩ = some (.int .u32 x)
def NL (w : World) (v : Value) (l : List Nat) : Prop :=
  W64 l ∧ ((v = .slice none 0 0 ∧ l = []) ∨ ∃ b o c, v = .slice (some ⟨b, o, none⟩) l.length c ∧ l.length ≤ c ∧ c ≤ maxLen ∧ NA w b o l)
theorem NA.below {w w' : World} {b o : Nat} {l : List Nat} (h : NA w b o l) (hb : Below w.heap.size w w') : NA w' b o l :=
  ⟨Nat.lt_of_lt_of_le h.1 hb.size, fun j x hj => (hb.cell (p := ⟨b, o + j, none⟩) h.1).trans (h.2 j x hj)⟩
theorem NL.below {w w' : World} {v : Value} {l : List Nat} (h : NL w v l) (hb : Below w.heap.size w w') : NL w' v l := by
  obtain ⟨h1, h2⟩ := h
  refine ⟨h1, ?_⟩
  rcases h2 with h2 | ⟨b, o, c, e, h3, h5, h4⟩
  · exact .inl h2
  · exact .inr ⟨b, o, c, e, h3, h5, h4.below hb⟩
/-- a number in memory -/
def NV (w : World) (v : Value) (n : Nat) : Prop := ∃ l, NL w v l ∧ Can l ∧ val l = n
theorem NV.below {w w' : World} {v : Value} {n : Nat} (h : NV w v n) (hb : Below w.heap.size w w') : NV w' v n := by
  obtain ⟨l, h1, h2, h3⟩ := h
  exact ⟨l, h1.below hb, h2, h3⟩
theorem NA.take {w : World} {b o : Nat} {l : List Nat} (h : NA w b o l) (k : Nat) : NA w b o (l.take k) := ⟨h.1, fun j x hj => h.2 j x (by
  rw [List.getElem?_take] at hj
  split at hj
  · exact hj
  · cases hj)⟩
theorem NA.drew {w : World} {b o : Nat} {l : List Nat} (h : NA w b o l) (n : Nat) : NA (w.drewN n) b o l := ⟨h.1, fun j x hj => h.2 j x hj⟩
theorem NL.drew {w : World} {v : Value} {l : List Nat} (h : NL w v l) (n : Nat) : NL (w.drewN n) v l := by
  obtain ⟨h1, h2⟩ := h
  refine ⟨h1, ?_⟩
  rcases h2 with h2 | ⟨b, o, c, e, h3, h5, h4⟩
  · exact .inl h2
  · exact .inr ⟨b, o, c, e, h3, h5, h4.drew n⟩
theorem NV.drew {w : World} {v : Value} {n : Nat} (h : NV w v n) (k : Nat) : NV (w.drewN k) v n := by
  obtain ⟨l, h1, h2, h3⟩ := h
  exact ⟨l, h1.drew k, h2, h3⟩
theorem NL.form {w : World} {v : Value} {l : List Nat} (h : NL w v l) : ∃ A c, v = .slice A l.length c := by
  rcases h.2 with ⟨e, rfl⟩ | ⟨b, o, c, e, _⟩
  · exact ⟨none, 0, e⟩
  · exact ⟨_, c, e⟩
theorem NL.addr {w : World} {v : Value} {l : List Nat} (h : NL w v l) (hl : 0 < l.length) : ∃ b o c, v = .slice (some ⟨b, o, none⟩) l.length c ∧ l.length ≤ c ∧ c ≤ maxLen ∧ NA w b o l := by
  rcases h.2 with ⟨_, rfl⟩ | h
  · exact absurd hl (by decide)
  · exact h
set_option maxRecDepth 100000 in
set_option maxHeartbeats 1000000 in
theorem cTrim {w : World} {v : Value} {l : List Nat} (h : NL w v l) : Calls Tryz.prog 93 #[v] w fun e w' => w = w' ∧ ∃ v', e = .returned v' ∧ NL w v' (l.take (tn l l.length)) ∧ ∀ g, blk v' = some g → blk v = some g := by
  obtain ⟨hW, h⟩ := h
  rcases h with ⟨rfl, rfl⟩ | ⟨b, o, c, rfl, hc, hcm, hA⟩
  · have HR : Hid (NL w (.slice none 0 0) []) := Lib.hid ⟨hW, .inl ⟨rfl, rfl⟩⟩
    clear hW
    go_enter Tryz.func93, Tryz.ntmps93
    go_wp2
    refine wp_loop_rounds 1 ?_
    rw [rounds_succ]
    go_wp2
    go_ret
    exact ⟨rfl, _, rfl, HR.out, fun g h => h⟩
  · have H := Lib.hid hA
    have HW := Lib.hid hW
    have HC := Lib.hid hc
    have HM := Lib.hid hcm
    have hm : (c : Int) ≤ 9223372036854775807 := by have := hcm; unfold maxLen at this; omega
    clear hA hW hc hcm
    go_enter Tryz.func93, Tryz.ntmps93
    go_wp2_with fail
    go_loopw [3] (fun i wx => ∃ k : Nat, Hid (k ≤ l.length) ∧ i = .int .i64 k ∧ Hid (tn l k = tn l l.length) ∧ wx = w) (fun i _ => (intOf i).toNat)
    case atStart => exact ⟨l.length, Lib.hid (Nat.le_refl _), rfl, Lib.hid rfl, rfl⟩
    case round =>
      obtain ⟨k, hk, rfl, ht, rfl⟩ := hrel
      rcases k with _ | m
      · have HR : Hid (NL wr (.slice (some ⟨b, o, none⟩) 0 c) (l.take (tn l l.length))) := Lib.hid (by
          rw [← ht.out]
          exact ⟨fun x hx => (nomatch hx), .inr ⟨b, o, c, rfl, Nat.zero_le _, HM.out, ⟨H.out.1, fun j x hj => (nomatch hj)⟩⟩⟩)
        go_wp2
        go_ret
        exact ⟨rfl, _, rfl, HR.out, fun g h => h⟩
      · obtain ⟨x, hx⟩ : ∃ x, l[m]? = some x := ⟨l[m]'(by have := hk.out; omega), List.getElem?_eq_getElem _⟩
        have kc := H.out.2 m x hx
        have hmc : (m : Int) + 1 ≤ (c : Int) := by have := hk.out; have := HC.out; omega
        have hml : (m : Int) + 1 ≤ (l.length : Int) := by have := hk.out; omega
        have hm2 : (m : Int) ≤ 9223372036854775806 := by have := hk.out; have := HC.out; have := HM.out; unfold maxLen at this; omega
        have hgd : l.getD m 0 = x := by rw [List.getD, hx]; rfl
        by_cases h0 : x = 0
        · subst h0
          have T2 : Hid (tn l m = tn l l.length) := Lib.hid (by rw [← ht.out, tn, if_pos hgd])
          clear hx hgd
          go_wp2
          go_roundw
          case rel => exact ⟨m, Lib.hid (by have := hk.out; omega), by go_num, T2, trivial⟩
          case measure => simp [intOf]
        · have HR : Hid (NL wr (.slice (some ⟨b, o, none⟩) (m + 1) c) (l.take (tn l l.length))) := Lib.hid (by
            rw [← ht.out, tn, if_neg (by rw [hgd]; exact h0)]
            have e : (l.take (m + 1)).length = m + 1 := by rw [List.length_take]; have := hk.out; omega
            exact ⟨HW.out.take _, .inr ⟨b, o, c, by rw [e], by rw [e]; have := hk.out; have := HC.out; omega, HM.out, H.out.take _⟩⟩)
          have h1 : ¬ ((x : Int) = 0) := by omega
          clear hx hgd h0
          go_wp2
          go_ret
          exact ⟨rfl, _, rfl, HR.out, fun g h => h⟩
end Go.Proofs.YtjkifbkehochoaaGreatDoor.R

namespace Go.Proofs.YtjkifbkehochoaaGreatDoor.R
open Go.RowKit Fl

def uv (x : Nat) : Value := .int .u32 (x : Int)
/-- a row of the call's own -/
def OU (w : World) (B : Nat) (v : Value) (l : List Nat) : Prop := w.ownsRow B 106 1 v l.length (l.map uv)
theorem info106 : (Tryz.prog.info? 106).map (fun i => (i.zero, i.size, i.bytes)) = some (some (.int .u32 0), 1, 4) := by kernel_rfl
theorem OU.nl {w : World} {B : Nat} {v : Value} {l : List Nat} (h : OU w B v l) (hW : W64 l) : NL w v l := by
  refine ⟨hW, ?_⟩
  obtain ⟨h1, h2⟩ := h
  rcases h2 with ⟨e, h2⟩ | ⟨g, cap, cur, rfl, hb, hg, h3, h4, h5, h6⟩
  · exact .inl ⟨e, List.eq_nil_of_length_eq_zero h2⟩
  · refine .inr ⟨g, 0, cap, rfl, h3, h4, (Array.getElem?_eq_some_iff.1 hg).1, fun j x hj => ?_⟩
    have hlt : j < l.length := (List.getElem?_eq_some_iff.1 hj).1
    have : (cur.toList.take (l.length * 1))[j]? = some (uv x) := by rw [h6, List.getElem?_map, hj]; rfl
    rw [List.getElem?_take, if_pos (by omega)] at this
    simp only [World.cell?, hg, Nat.zero_add]
    simpa [uv] using this
theorem OU.blk {w : World} {B : Nat} {v : Value} {l : List Nat} (h : OU w B v l) {g : Nat} (hg : blk v = some g) : B ≤ g := by
  rcases h.2 with ⟨e, _⟩ | ⟨g', cap, cur, rfl, hb, _⟩
  · rw [e] at hg; cases hg
  · cases hg; exact hb
theorem OU.made (wx : World) {p q : Nat} (h : p ≤ q) (hq : q ≤ maxLen) {B : Nat} (hB : B ≤ wx.heap.size) : OU (wx.alloc (.cells (madeCells #[.int .u32 0] q) 106)) B (.slice (some ⟨wx.heap.size, 0, none⟩) p q) (List.replicate p 0) := by
  have hm : (madeCells #[Value.int .u32 0] q).toList = List.replicate q (uv 0) := by
    unfold madeCells
    apply List.ext_getElem
    · simp
    · intro i h1 h2; simp [uv, Nat.mod_one]
  refine ⟨by simp, .inr ⟨wx.heap.size, q, _, by rw [List.length_replicate], hB, by show (wx.heap.push _)[wx.heap.size]? = _; simp; rfl, by rw [List.length_replicate]; exact h, hq, ?_, ?_⟩⟩
  · rw [← Array.length_toList, hm, List.length_replicate, Nat.mul_one]
  · rw [hm, List.length_replicate, Nat.mul_one, List.take_replicate, Nat.min_eq_left h, List.map_replicate]
theorem run_mk (p q : Nat) (h : p ≤ q) (hq : q ≤ 1000000) (wx : World) : (Instr.makeSlice 77 (.int .i64 p) (.int .i64 q)).run Tryz.prog wx = .ok (.slice (some ⟨wx.heap.size, 0, none⟩) p q) (wx.alloc (.cells (madeCells #[.int .u32 0] q) 106)) := by
  obtain ⟨i0, hi, hz0, hz1, hz2⟩ := info_parts info106
  have := run_make (P := Tryz.prog) wx 77 106 i0 (.int .u32 0) Tryz.underlying77 hi hz0 .i64 .i64 p q (by omega) (by omega) (by rw [hz2]; omega) (by omega)
  rw [hz1] at this
  simp only [Int.toNat_natCast, Nat.mul_one] at this
  exact this
theorem wpList_app {w0 : World} {ops : Array Oper} {rest : List Oper} {o : Oper} {a : Act} {Q : Exit → Act → World → Prop} (hgd : o.guard = none) (s x : Operand)
    (ho : o.op = .call { callee := .builtin .append, args := #[s, x], argTypes := #[77, 77] }) (B : Nat) (v : Value) (l : List Nat) (d : Nat) (hs : a.eval s = v) (hown : OU w0 B v l) (hx : a.eval x = .slice (some ⟨w0.heap.size, 0, none⟩) 1 1) (hl : l.length ≤ 1000000) (hB : B ≤ w0.heap.size)
    (h : ∀ v' w', OU w' B v' (l ++ [d]) → (∀ wB, B ≤ wB.heap.size → Below B wB w0 → Below B wB w') → w0.heap.size ≤ w'.heap.size → wpList Tryz.prog ops Q rest (a.put o.dst v') w') : wpList Tryz.prog ops Q (o :: rest) a (w0.alloc (.cells #[.int .u32 (d : Int)] 106)) := by
  obtain ⟨i0, hi, hz0, hz1, hz2⟩ := info_parts info106
  refine wpList_append_own _ hgd s x 77 ho B 106 i0 (.int .u32 0) 1 4 Tryz.underlying77 hi hz0 hz1 hz2 rfl (by decide) v l.length (l.map uv) hs (hown.alloc _) ⟨w0.heap.size, 0, none⟩ 1 1 [uv d] hx rfl ?_ ?_ (by unfold maxLen; omega) (by omega) (by simp; omega) ?_
  · intro j u hj
    match j, hj with
    | 0, hj => simp at hj; subst hj; simp [Addr.add, uv]
  · intro u hu; simp at hu; subst hu; rfl
  · intro v' w' own grow _
    refine h v' w' ?_ ?_ ?_
    · unfold OU
      rw [List.length_append, List.map_append]
      exact own
    · intro wB hb1 hb2
      refine (hb2.alloc hB _).grown grow (by simp; omega) fun k hk => ?_
      rcases hown.2 with ⟨e, _⟩ | ⟨g, _, _, e, hg, _⟩
      · rw [e] at hk; cases hk
      · rw [e] at hk; cases hk; exact hg
    · have := grow.size; simp at this; omega
end Go.Proofs.YtjkifbkehochoaaGreatDoor.R
