/- Rows of words that a call makes: one more word behind them. Left: plain laws. Left of whole numbers. -/
import Derived.Test.YtlgencbldbpbdaaGreatDoorMgLgC
import Derived.Deep.AppendLies
namespace Go.Proofs.YtlgencbldbpbdaaGreatDoor
open Go.RowKit Fl
def uv (x : Nat) : Value := .int .u64 (x : Int)
def OU (w : World) (B : Nat) (v : Value) (l : List Nat) : Prop := w.ownsRow B 101 1 v l.length (l.map uv)
theorem info77 : (Tryz.prog.info? 101).map (fun i => (i.zero, i.size, i.bytes)) = some (some (.int .u64 0), 1, 8) := by kernel_rfl
theorem OU.nl {w : World} {B : Nat} {v : Value} {l : List Nat} (h : OU w B v l) (hW : W64 l) : NL w v l := by
 refine ⟨hW, ?_⟩
 obtain ⟨h1, h2⟩ := h
 rcases h2 with ⟨e, h2⟩ | ⟨g, cap, cur, rfl, hb, hg, h3, h4, h5, h6⟩
 ·exact .inl ⟨e, List.eq_nil_of_length_eq_zero h2⟩
 ·refine .inr ⟨g, 0, cap, rfl, h3, h4, (Array.getElem?_eq_some_iff.1 hg).1, fun j x hj => ?_⟩
  have hlt : j < l.length := (List.getElem?_eq_some_iff.1 hj).1
  have : (cur.toList.take (l.length * 1))[j]? = some (uv x) := by rw [h6, List.getElem?_map, hj]; rfl
  rw [List.getElem?_take, if_pos (by omega)] at this
  simp only [World.cell?, hg, Nat.zero_add]
  simpa [uv] using this
theorem OU.blk {w : World} {B : Nat} {v : Value} {l : List Nat} (h : OU w B v l) {g : Nat} (hg : blk v = some g) : B ≤ g := by
 rcases h.2 with ⟨e, _⟩ | ⟨g', cap, cur, rfl, hb, _⟩
 ·rw [e] at hg; cases hg
 ·cases hg; exact hb
theorem OU.made (wx : World) {p q : Nat} (h : p ≤ q) (hq : q ≤ maxLen) {B : Nat} (hB : B ≤ wx.heap.size) : OU (wx.alloc (.cells (madeCells #[.int .u64 0] q) 101)) B (.slice (some ⟨wx.heap.size, 0, none⟩) p q) (List.replicate p 0) := by
 have hm : (madeCells #[Value.int .u64 0] q).toList = List.replicate q (uv 0) := by
  unfold madeCells
  apply List.ext_getElem
  ·simp
  ·intro i h1 h2; simp [uv, Nat.mod_one]
 refine ⟨by simp, .inr ⟨wx.heap.size, q, _, by rw [List.length_replicate], hB, by show (wx.heap.push _)[wx.heap.size]? = _; simp; rfl, by rw [List.length_replicate]; exact h, hq, ?_, ?_⟩⟩
 ·rw [← Array.length_toList, hm, List.length_replicate, Nat.mul_one]
 ·rw [hm, List.length_replicate, Nat.mul_one, List.take_replicate, Nat.min_eq_left h, List.map_replicate]
theorem run_mk (p q : Nat) (h : p ≤ q) (hq : q ≤ 1000000) (wx : World) : (Instr.makeSlice 254 (.int .i64 p) (.int .i64 q)).run Tryz.prog wx = .ok (.slice (some ⟨wx.heap.size, 0, none⟩) p q) (wx.alloc (.cells (madeCells #[.int .u64 0] q) 101)) := by
 obtain ⟨i0, hi, hz0, hz1, hz2⟩ := info_parts info77
 have := run_make (P := Tryz.prog) wx 254 101 i0 (.int .u64 0) Tryz.underlying254 hi hz0 .i64 .i64 p q (by omega) (by omega) (by rw [hz2]; omega) (by omega)
 rw [hz1] at this
 simp only [Int.toNat_natCast, Nat.mul_one] at this
 exact this
theorem wpList_app {w0 : World} {ops : Array Oper} {rest : List Oper} {o : Oper} {a : Act} {Q : Exit → Act → World → Prop} (hgd : o.guard = none) (s x : Operand)
  (ho : o.op = .call { callee := .builtin .append, args := #[s, x], argTypes := #[254, 254] }) (B : Nat) (v : Value) (l : List Nat) (d : Nat) (hs : a.eval s = v) (hown : OU w0 B v l) (hx : a.eval x = .slice (some ⟨w0.heap.size, 0, none⟩) 1 1) (hl : l.length ≤ 1000000) (hB : B ≤ w0.heap.size)
  (h : ∀ v' w', OU w' B v' (l ++ [d]) → (∀ wB, B ≤ wB.heap.size → Below B wB w0 → Below B wB w') → w0.heap.size ≤ w'.heap.size → wpList Tryz.prog ops Q rest (a.put o.dst v') w') : wpList Tryz.prog ops Q (o :: rest) a (w0.alloc (.cells #[.int .u64 (d : Int)] 101)) := by
 obtain ⟨i0, hi, hz0, hz1, hz2⟩ := info_parts info77
 refine wpList_append_own _ hgd s x 254 ho B 101 i0 (.int .u64 0) 1 8 Tryz.underlying254 hi hz0 hz1 hz2 rfl (by decide) v l.length (l.map uv) hs (hown.alloc _) ⟨w0.heap.size, 0, none⟩ 1 1 [uv d] hx rfl ?_ ?_ (by unfold maxLen; omega) (by omega) (by simp; omega) ?_
 ·intro j u hj
  match j, hj with
  | 0, hj => simp at hj; subst hj; simp [Addr.add, uv]
 ·intro u hu; simp at hu; subst hu; rfl
 ·intro v' w' own grow _
  refine h v' w' ?_ ?_ ?_
  ·unfold OU
   rw [List.length_append, List.map_append]
   exact own
  ·intro wB hb1 hb2
   refine (hb2.alloc hB _).grown grow (by simp; omega) fun k hk => ?_
   rcases hown.2 with ⟨e, _⟩ | ⟨g, _, _, e, hg, _⟩
   ·rw [e] at hk; cases hk
   ·rw [e] at hk; cases hk; exact hg
  ·have := grow.size; simp at this; omega
end Go.Proofs.YtlgencbldbpbdaaGreatDoor
namespace Go.Proofs.YtlgencbldbpbdaaGreatDoor
open Go.RowKit Fl
def shF (l : List Nat) (s : Nat) (k c : Nat) : Nat × Nat := ((l.getD k 0 * 2 ^ s + c) % BB, (l.getD k 0 * 2 ^ s + c) / BB)
theorem sh_carry {l : List Nat} (hW : W64 l) (s : Nat) : ∀ k, (crw (shF l s) 0 k).2 < 2 ^ s
 | 0 => Nat.pow_pos (by decide)
 | k + 1 => by
   have ih := sh_carry hW s k
   have hx := hW.getD k
   rw [crw]
   show (l.getD k 0 * 2 ^ s + (crw (shF l s) 0 k).2) / BB < 2 ^ s
   rw [Nat.div_lt_iff_lt_mul BB_pos]
   have : (l.getD k 0 + 1) * 2 ^ s ≤ BB * 2 ^ s := Nat.mul_le_mul_right _ hx
   rw [Nat.add_mul, Nat.one_mul] at this
   rw [Nat.mul_comm (2 ^ s)]
   omega
theorem BB_two : BB = 2 ^ 64 := rfl
theorem sh_split (s : Nat) (hs : s ≤ 64) : BB = 2 ^ (64 - s) * 2 ^ s := by
 rw [← Nat.pow_add, BB_two]; congr 1; omega
theorem sh_or {x low s : Nat} (hs : s ≤ 63) (hl : low < 2 ^ s) : (x * 2 ^ s % BB) ||| low = (x * 2 ^ s + low) % BB := by
 have e := sh_split s (by omega)
 have h1 : x * 2 ^ s % BB = 2 ^ s * (x % 2 ^ (64 - s)) := by
  rw [e, Nat.mul_mod_mul_right, Nat.mul_comm]
 have h2 : x % 2 ^ (64 - s) < 2 ^ (64 - s) := Nat.mod_lt _ (Nat.pow_pos (by decide))
 have h3 : 2 ^ s * (x % 2 ^ (64 - s)) + low < BB := by
  have : 2 ^ s * (x % 2 ^ (64 - s) + 1) ≤ 2 ^ s * 2 ^ (64 - s) := Nat.mul_le_mul_left _ h2
  rw [Nat.mul_add, Nat.mul_one, Nat.mul_comm (2 ^ s) (2 ^ (64 - s)), ← e] at this
  omega
 rw [Nat.add_mod, h1, Nat.mod_eq_of_lt (show low < BB by omega), Nat.mod_eq_of_lt h3, Nat.two_pow_add_eq_or_of_lt hl]
theorem shw_div {x low s : Nat} (hs : s ≤ 63) (hl : low < 2 ^ s) : x / 2 / 2 ^ (63 - s) = (x * 2 ^ s + low) / BB := by
 rw [Nat.div_div_eq_div_mul, show 2 * 2 ^ (63 - s) = 2 ^ (64 - s) from by rw [Nat.mul_comm, ← Nat.pow_succ]; congr 1; omega]
 rw [sh_split s (by omega), Nat.mul_comm (2 ^ (64 - s)), ← Nat.div_div_eq_div_mul]
 congr 1
 rw [Nat.mul_comm x, Nat.mul_add_div (Nat.pow_pos (by decide)), Nat.div_eq_of_lt hl, Nat.add_zero]
theorem sh_val {l : List Nat} (hW : W64 l) (s q : Nat) : val (List.replicate q 0 ++ (crw (shF l s) 0 l.length).1 ++ [(crw (shF l s) 0 l.length).2]) = val l * 2 ^ (64 * q + s) := by
 have h := cr_val (f := shF l s) (c0 := 0) (t := fun i => l.getD i 0 * 2 ^ s) (n := l.length) (fun k _ => by
  show (l.getD k 0 * 2 ^ s + (crw (shF l s) 0 k).2) % BB + BB * ((l.getD k 0 * 2 ^ s + (crw (shF l s) 0 k).2) / BB) = _
  exact Nat.mod_add_div _ _) l.length (Nat.le_refl _)
 rw [sumN_mul, sumN_val _ (Nat.le_refl _), List.take_length, Nat.add_zero] at h
 rw [List.append_assoc, val_append, val_replicate, List.length_replicate, Nat.zero_add, val_append, cr_len]
 simp only [val, Nat.mul_zero, Nat.add_zero]
 rw [h, BB_pow, Nat.pow_add]
 rw [Nat.mul_comm (2 ^ (64 * q)), Nat.mul_assoc, Nat.mul_comm (2 ^ s)]
theorem sh_w64 {l : List Nat} (hW : W64 l) (s q : Nat) (hs : s ≤ 63) : W64 (List.replicate q 0 ++ (crw (shF l s) 0 l.length).1 ++ [(crw (shF l s) 0 l.length).2]) := by
 refine ((W64.replicate q).append ?_).append fun x hx => ?_
 ·have : ∀ k, W64 (crw (shF l s) 0 k).1 := by
   intro k
   induction k with
   | zero => intro x hx; cases hx
   | succ k ih =>
     rw [crw]
     refine ih.append fun x hx => ?_
     rcases List.mem_singleton.1 hx with rfl
     exact Nat.mod_lt _ BB_pos
  exact this _
 ·rcases List.mem_singleton.1 hx with rfl
  have := sh_carry hW s l.length
  have h2 : 2 ^ s ≤ 2 ^ 64 := Nat.pow_le_pow_right (by decide) (by omega)
  rw [← BB_two] at h2
  omega
end Go.Proofs.YtlgencbldbpbdaaGreatDoor
namespace Go.Proofs.YtlgencbldbpbdaaGreatDoor
open Go.RowKit Fl
theorem u64_wrap (n : Nat) : IntKind.u64.wrap (n : Int) = ((n % BB : Nat) : Int) := by
 rw [IntKind.wrap_u64]; unfold BB; omega
theorem sh_bits {x low s : Nat} (hs : s ≤ 63) (hl : low < 2 ^ s) : bits .or .u64 (IntKind.u64.wrap ((x : Int) * 2 ^ s)) (low : Int) = (((x * 2 ^ s + low) % BB : Nat) : Int) := by
 have h2 : 2 ^ s ≤ 2 ^ 63 := Nat.pow_le_pow_right (by decide) hs
 rw [show ((x : Int) * 2 ^ s) = ((x * 2 ^ s : Nat) : Int) from by push_cast; rfl, u64_wrap, u64_or_nat _ _ (show x * 2 ^ s % BB < 18446744073709551616 from Nat.mod_lt _ BB_pos) (show low < 18446744073709551616 by omega), sh_or hs hl]
set_option maxRecDepth 100000 in
set_option maxHeartbeats 2000000 in
theorem c40b {w : World} {v : Value} {x n : Nat} (hv : NV w v x) (hs : blen x + n ≤ 64000) :
  Calls Tryz.prog 246 #[v, .int .i64 n] w fun e w' => Below w.heap.size w w' ∧ ∃ v', e = .returned v' ∧ NV w' v' (x * 2 ^ n) ∧ ∀ g, blk v' = some g → w.heap.size ≤ g := by
 obtain ⟨l, nl, hc, rfl⟩ := hv
 have hlen := len_small nl.1 hc (n := 1000) (by omega)
 rcases Nat.eq_zero_or_pos l.length with h0 | h0
 ·obtain ⟨A, c, rfl⟩ := nl.form
  have e : l = [] := List.eq_nil_of_length_eq_zero h0
  subst e
  have HR : Hid (NV w (.slice none 0 0) (val [] * 2 ^ n)) := Lib.hid ⟨[], ⟨fun x hx => (nomatch hx), .inl ⟨rfl, rfl⟩⟩, .inl rfl, by simp [val]⟩
  clear nl hc hs hlen h0
  go_enter Tryz.func246, Tryz.ntmps246
  go_wp2
  go_ret
  exact ⟨Below.refl _ _, _, rfl, HR.out, fun g h => (nomatch h)⟩
 ·obtain ⟨b, o, c, rfl, hcl, hcm, hA⟩ := nl.addr h0
  have HA := Lib.hid hA
  have HW := Lib.hid nl.1
  have la2 : (l.length : Int) ≤ 1000 := by omega
  have la0 : ((l.length : Int) == 0) = false := beq_eq_false_iff_ne.2 (by omega)
  have hn2 : (n : Int) ≤ 64000 := by omega
  have hn0 : (0 : Int) ≤ (n : Int) := by omega
  have HC := Lib.hid hc
  obtain ⟨q, hq⟩ : ∃ q, q = n / 64 := ⟨_, rfl⟩
  obtain ⟨s, hs'⟩ : ∃ s, s = n % 64 := ⟨_, rfl⟩
  have hqn : (n : Int) / 64 = (q : Int) := by omega
  have hsn : (n : Int) % 64 = (s : Int) := by omega
  have hq2 : (q : Int) ≤ 1000 := by omega
  have hs2 : (s : Int) ≤ 63 := by omega
  have hmk : ∀ wx : World, (Instr.makeSlice 254 (.int .i64 ((n : Int) / 64)) (.int .i64 ((n : Int) / 64 + (l.length : Int) + 1))).run Tryz.prog wx = .ok (.slice (some ⟨wx.heap.size, 0, none⟩) q (q + l.length + 1)) (wx.alloc (.cells (madeCells #[.int .u64 0] (q + l.length + 1)) 101)) := fun wx => by
   have := run_mk q (q + l.length + 1) (by omega) (by omega) wx
   push_cast at this
   rw [hqn]
   exact this
  have O0 := Lib.hid (OU.made w (p := q) (q := q + l.length + 1) (by omega) (by unfold maxLen; omega) (B := w.heap.size) (Nat.le_refl _))
  have B0 : Hid (Below w.heap.size w (w.alloc (.cells (madeCells #[.int .u64 0] (q + l.length + 1)) 101))) := Lib.hid ((Below.refl _ _).alloc (Nat.le_refl _) _)
  have HQ := Lib.hid (And.intro hqn hsn)
  have hq3 : (n : Int) / 64 ≤ 1000 := by omega
  have HQ' := Lib.hid (And.intro hq hs')
  clear hA nl hc hs hlen h0 hcl hcm hqn hsn hq hs'
  go_enter Tryz.func246, Tryz.ntmps246
  go_upto_region 4 with fail
  generalize w.alloc (.cells (madeCells #[.int .u64 0] (q + l.length + 1)) 101) = w1 at *
  generalize (Value.slice (some ⟨w.heap.size, 0, none⟩) q (q + l.length + 1)) = v1 at *
  go_wp2_with fail
  go_loopw [5, 6, 23] (fun v lo i wx => ∃ k : Nat, k ≤ l.length ∧ i = .int .i64 k ∧ lo = .int .u64 ((crw (shF l s) 0 k).2 : Nat) ∧ Hid (OU wx w.heap.size v (List.replicate q 0 ++ (crw (shF l s) 0 k).1)) ∧ Hid (Below w.heap.size w wx)) (fun _ _ i _ => l.length - (intOf i).toNat)
  case atStart => exact ⟨0, Nat.zero_le _, rfl, rfl, Lib.hid (by rw [crw, List.append_nil]; exact O0.out), B0⟩
  case round =>
   obtain ⟨k, hk, rfl, rfl, hO, hB⟩ := hrel
   by_cases hlt : k < l.length
   ·have hki : (k : Int) < (l.length : Int) := by omega
    obtain ⟨x, hx⟩ : ∃ x, l[k]? = some x := ⟨l[k], List.getElem?_eq_getElem hlt⟩
    have kc := (HA.out.below hB.out).2 k x hx
    have hgd : l.getD k 0 = x := by rw [List.getD, hx]; rfl
    have hcl := sh_carry HW.out s k
    have es : n % 64 = s := HQ'.out.2.symm
    have HLT := Lib.hid hlt
    have E1 : Hid ((crw (shF l s) 0 (k + 1)).1 = (crw (shF l s) 0 k).1 ++ [(x * 2 ^ s + (crw (shF l s) 0 k).2) % BB]) := Lib.hid (by rw [crw, shF, hgd])
    have E2 : Hid ((crw (shF l s) 0 (k + 1)).2 = (x * 2 ^ s + (crw (shF l s) 0 k).2) / BB) := Lib.hid (by rw [crw, shF, hgd])
    have L1 : Hid ((List.replicate q 0 ++ (crw (shF l s) 0 k).1).length ≤ 1000000) := Lib.hid (by rw [List.length_append, List.length_replicate, cr_len]; omega)
    obtain ⟨lo, hlo⟩ : ∃ lo, lo = (crw (shF l s) 0 k).2 := ⟨_, rfl⟩
    rw [← hlo] at hcl E1 E2 ⊢
    obtain ⟨d, hd⟩ : ∃ d, d = (x * 2 ^ s + lo) % BB := ⟨_, rfl⟩
    obtain ⟨c2, hc2⟩ : ∃ c2, c2 = (x * 2 ^ s + lo) / BB := ⟨_, rfl⟩
    have hor : bits .or .u64 (IntKind.u64.wrap ((x : Int) * 2 ^ (n % 64))) (lo : Int) = (d : Int) := by rw [es, hd]; exact sh_bits (by omega) hcl
    have HDV : Hid ((x : Int) / 2 / 2 ^ (63 - n % 64) = (c2 : Int)) := Lib.hid (by
     have hdv : x / 2 / 2 ^ (63 - s) = c2 := by rw [hc2]; exact shw_div (by omega) hcl
     rw [es, ← hdv]; push_cast; rfl)
    rw [← hd] at E1
    rw [← hc2] at E2
    clear hx hgd hcl hd hc2 hlo hlt es
    go_wp2_with (at_builtin; refine wpList_app rfl (.tmp 27) (.tmp 34) rfl w.heap.size _ _ _ rfl hO.out rfl L1.out hB.out.size ?_; intro v' w' own' bel' siz'; replace own' := Lib.hid own'; replace bel' := Lib.hid bel'; clear siz')
    go_roundw
    case rel => exact ⟨k + 1, by have := HLT.out; omega, by go_num, by rw [E2.out]; exact congrArg (Value.int .u64) HDV.out, Lib.hid (by rw [E1.out, ← List.append_assoc]; exact own'.out), Lib.hid (bel'.out w (Nat.le_refl _) hB.out)⟩
    case measure => have := HLT.out; simp [intOf]; omega
   ·have hki : ¬ (k : Int) < (l.length : Int) := by omega
    have hkl : k = l.length := by omega
    subst hkl
    have L1 : Hid ((List.replicate q 0 ++ (crw (shF l s) 0 l.length).1).length ≤ 1000000) := Lib.hid (by rw [List.length_append, List.length_replicate, cr_len]; omega)
    have V1 := Lib.hid (sh_val HW.out s q)
    have W1 := Lib.hid (sh_w64 HW.out s q (by omega))
    have EN : Hid (64 * q + s = n) := Lib.hid (by have := HQ'.out; omega)
    clear hlt
    go_wp2_with (at_builtin; refine wpList_app rfl (.tmp 43) (.tmp 45) rfl w.heap.size _ _ _ rfl hO.out rfl L1.out hB.out.size ?_; intro v' w' own' bel' siz'; replace own' := Lib.hid own'; replace bel' := Lib.hid bel'; clear siz')
    refine (c82b (own'.out.nl W1.out)).mono ?_
    rintro e w2 ⟨rfl, v2, rfl, hv2, hg2⟩
    have HG2 := Lib.hid (fun g hg => own'.out.blk (hg2 g hg))
    clear hg2
    have R2 : Hid (NV w' v2 (val l * 2 ^ n)) := Lib.hid ⟨_, hv2, tn_can _ (Nat.le_refl _), by rw [tn_val _ (Nat.le_refl _), List.take_length, V1.out, EN.out]⟩
    clear hv2
    go_wp2_with fail
    go_ret
    exact ⟨bel'.out w (Nat.le_refl _) hB.out, _, rfl, R2.out, HG2.out⟩
theorem c40 {w : World} {v : Value} {x n : Nat} (hv : NV w v x) (hs : blen x + n ≤ 64000) :
  Calls Tryz.prog 246 #[v, .int .i64 n] w fun e w' => Below w.heap.size w w' ∧ ∃ v', e = .returned v' ∧ NV w' v' (x * 2 ^ n) :=
 (c40b hv hs).mono fun _ _ ⟨a, v', b, c, _⟩ => ⟨a, v', b, c⟩
end Go.Proofs.YtlgencbldbpbdaaGreatDoor
