/- strings.FieldsFunc at blanks: the words of a text, by bytes. strings.FieldsFunc as ease calls it; what points tell, plain. ease.parsePoints: plain laws ahead of the walk. ease.parsePoints: the walk. ease.Parse: cut, split, the words; what Parse answers. ease: what is printed is read again as the same easing (plain). ease.parseSteps: the walk (printed by gen_eba.py). ease: points printed are read again; what Parse answers is in its bounds (plain). ease: what steps and curves tell at the ends; steps tell whole parts (plain). galleyref01: Split, Drop, Nearest, Whole, Floor of numbers from 0 on. galleyref16: trimmed, number. ease.Parse: strings.Cut, strings.Split at one byte; a row of strings; what its parts make. -/
import Derived.Test.YtlgencbldbpbdaaGreatDoorMgEbD
import Derived.Shelf.Strings.FieldsFuncAny
import Derived.Lib.DecodeN
import Derived.Lib.RuneCountTail
import Derived.Test.YtlgencbldbpbdaaGreatDoorSh
import Derived.Shelf.Strings.Cut
import Derived.Shelf.Strings.SplitShaped
import Derived.Test.YtlgencbldbpbdaaGreatDoorMgEaZ
import Derived.BigQuiet
import Derived.Test.YtlgencbldbpbdaaGreatDoorMgDkC
import Derived.Test.YtlgencbldbpbdaaGreatDoorMgDhB
namespace Go.Proofs.YtlgencbldbpbdaaGreatDoor
open Go.RowKit Fl
def wG (cur : List Nat) : List Nat → List (List Nat)
 | [] => if cur = [] then [] else [cur]
 | b :: l => if b = 32 then (if cur = [] then wG [] l else cur :: wG [] l) else wG (cur ++ [b]) l
def wordsN (l : List Nat) : List (List Nat) := wG [] l
theorem wG_chunk : ∀ (c cur l : List Nat), (∀ b ∈ c, b ≠ 32) → wG cur (c ++ l) = wG (cur ++ c) l
 | [], cur, l, _ => by simp
 | b :: c, cur, l, h => by
   show (if b = 32 then _ else wG (cur ++ [b]) (c ++ l)) = _
   rw [if_neg (h b (List.mem_cons_self ..)), wG_chunk c _ l (fun x hx => h x (List.mem_cons_of_mem _ hx)), List.append_assoc]
   rfl
theorem get_bl (s : ByteArray) (i : Nat) : (s.get! i).toNat = (bl s).getD i 0 := by rw [← Lib.getD_get!', bl_data]
theorem decN (n b0 b1 b2 b3 : Nat) (hn : 0 < n) (h0 : b0 < 256) : ((Lib.decodeN n b0 b1 b2 b3).1 == 32) = decide (b0 = 32) ∧ 1 ≤ (Lib.decodeN n b0 b1 b2 b3).2 ∧ (Lib.decodeN n b0 b1 b2 b3).2 ≤ n ∧ (b0 = 32 → (Lib.decodeN n b0 b1 b2 b3).2 = 1) ∧
  (1 < (Lib.decodeN n b0 b1 b2 b3).2 → b1 ≠ 32) ∧ (2 < (Lib.decodeN n b0 b1 b2 b3).2 → b2 ≠ 32) ∧ (3 < (Lib.decodeN n b0 b1 b2 b3).2 → b3 ≠ 32) ∧ (Lib.decodeN n b0 b1 b2 b3).2 ≤ 4 := by
 unfold Lib.decodeN
 have e : ∀ a b : Nat, (a == 32) = decide (b = 32) ↔ (a = 32 ↔ b = 32) := fun a b => by
  by_cases h1 : a = 32 <;> by_cases h2 : b = 32 <;> simp [h1, h2]
 rw [e]
 by_cases c0 : b0 < 128
 ·rw [if_pos c0]
  exact ⟨Iff.rfl, Nat.le_refl _, hn, fun _ => rfl, fun h => by simp at h, fun h => by simp at h, fun h => by simp at h, by simp⟩
 ·rw [if_neg c0]
  by_cases c1 : b0 / 32 = 6 ∧ (1 < n ∧ b1 / 64 = 2)
  ·rw [if_pos c1]
   by_cases d : b0 % 32 * 64 + b1 % 64 ≥ 128
   ·rw [if_pos d]; simp only []; omega
   ·rw [if_neg d]; simp only []; omega
  ·rw [if_neg c1]
   by_cases c2 : b0 / 16 = 14 ∧ (1 < n ∧ b1 / 64 = 2) ∧ (2 < n ∧ b2 / 64 = 2)
   ·rw [if_pos c2]
    split <;> simp only [] <;> omega
   ·rw [if_neg c2]
    by_cases c3 : b0 / 8 = 30 ∧ (1 < n ∧ b1 / 64 = 2) ∧ (2 < n ∧ b2 / 64 = 2) ∧ (3 < n ∧ b3 / 64 = 2)
    ·rw [if_pos c3]
     split <;> simp only [] <;> omega
    ·rw [if_neg c3]; simp only []; omega
theorem dec_step (s : ByteArray) (pos : Nat) (h : pos < s.size) : ∃ n b, (Utf8.decode s pos).2 = n + 1 ∧ pos + n + 1 ≤ s.size ∧ ((Utf8.decode s pos).1 == 32) = decide (b = 32) ∧ (b = 32 → n = 0) ∧
  ∃ c, (bl s).drop pos = b :: c ++ (bl s).drop (pos + n + 1) ∧ c.length = n ∧ ∀ x ∈ c, x ≠ 32 := by
 have D := decN (s.size - pos) (s.get! pos).toNat (s.get! (pos + 1)).toNat (s.get! (pos + 2)).toNat (s.get! (pos + 3)).toNat (by omega) (UInt8.toNat_lt _)
 rw [← Lib.decode_at] at D
 rw [get_bl, get_bl, get_bl, get_bl] at D
 obtain ⟨n, hn⟩ : ∃ n, (Utf8.decode s pos).2 = n + 1 := ⟨(Utf8.decode s pos).2 - 1, by omega⟩
 rw [hn] at D
 obtain ⟨d1, -, d3, d4, d5, d6, d7, d8⟩ := D
 have hl := bl_len s
 refine ⟨n, (bl s).getD pos 0, hn, by omega, d1, fun e => by have := d4 e; omega, ((bl s).drop (pos + 1)).take n, ?_, ?_, ?_⟩
 ·have e1 : (bl s).drop pos = (bl s).getD pos 0 :: (bl s).drop (pos + 1) := by
   rw [List.drop_eq_getElem_cons (by omega), List.getD_eq_getElem?_getD, List.getElem?_eq_getElem (by omega)]; rfl
  rw [e1, List.cons_append]
  congr 1
  have := (List.take_append_drop n ((bl s).drop (pos + 1))).symm
  rw [List.drop_drop, show pos + 1 + n = pos + n + 1 by omega] at this
  exact this
 ·rw [List.length_take, List.length_drop]; omega
 ·intro x hx
  obtain ⟨i, hi, e⟩ := List.getElem_of_mem hx
  rw [List.length_take, List.length_drop] at hi
  have hx2 : x = (bl s).getD (pos + 1 + i) 0 := by
   rw [← e, List.getElem_take, List.getElem_drop, List.getD_eq_getElem?_getD, List.getElem?_eq_getElem (by omega)]; rfl
  rw [hx2]
  have h4 : i = 0 ∨ i = 1 ∨ i = 2 := by omega
  rcases h4 with rfl | rfl | rfl
  ·exact d5 (by omega)
  ·exact d6 (by omega)
  ·exact d7 (by omega)
def curN (s : ByteArray) (pos : Nat) : Option Nat → List Nat
 | none => []
 | some a => ((bl s).take pos).drop a
theorem spans_words (s : ByteArray) : ∀ (f pos : Nat) (st : Option Nat) (acc : List (Nat × Nat)), s.size - pos ≤ f → pos ≤ s.size → (∀ a, st = some a → a < pos) →
  (Lib.closeSpans s (Lib.spansFromP (· == 32) s f pos st acc)).map (fun x => bl (s.extract x.1 x.2)) = acc.map (fun x => bl (s.extract x.1 x.2)) ++ wG (curN s pos st) ((bl s).drop pos)
 | f, pos, st, acc, hf, hp, hs => by
  have hl := bl_len s
  by_cases hlt : pos < s.size
  ·obtain ⟨n, b, e1, e2, e3, e4, c, e5, e6, e7⟩ := dec_step s pos hlt
   obtain ⟨f', rfl⟩ : ∃ f', f = f' + 1 := ⟨f - 1, by omega⟩
   unfold Lib.spansFromP
   rw [if_pos hlt, e1, e3, e5]
   have tk : (bl s).take (pos + (n + 1)) = (bl s).take pos ++ b :: c := by
    have h1 : (bl s).take (pos + (n + 1)) = (bl s).take pos ++ ((bl s).drop pos).take (n + 1) := by rw [List.take_add]
    have h2 : (b :: c ++ (bl s).drop (pos + n + 1)).take (n + 1) = b :: c := List.take_left' (by rw [List.length_cons, e6])
    rw [h1, e5, h2]
   by_cases hb : b = 32
   ·have h0 := e4 hb
    subst h0
    have hc : c = [] := List.eq_nil_of_length_eq_zero e6
    subst hc
    subst hb
    rw [decide_eq_true rfl, if_pos rfl]
    cases st with
    | none =>
      simp only []
      rw [spans_words s f' (pos + (0 + 1)) none acc (by omega) (by omega) (fun a h => by cases h)]
      rfl
    | some a =>
      simp only []
      have ha := hs a rfl
      rw [spans_words s f' (pos + (0 + 1)) none _ (by omega) (by omega) (fun a h => by cases h), List.map_append]
      have hne : ((bl s).take pos).drop a ≠ [] := by
       intro h
       have := congrArg List.length h
       rw [List.length_drop, List.length_take] at this
       simp at this
       omega
      show _ = _ ++ (if (32 : Nat) = 32 then (if ((bl s).take pos).drop a = [] then _ else _ :: wG [] _) else _)
      rw [if_pos rfl, if_neg hne, List.append_assoc]
      simp only [List.map_cons, List.map_nil, List.singleton_append, bl_extract]
      rfl
   ·rw [decide_eq_false hb, if_neg (by decide)]
    have hch : ∀ x ∈ b :: c, x ≠ 32 := fun x hx => by
     rcases List.mem_cons.1 hx with rfl | h
     ·exact hb
     ·exact e7 x h
    rw [wG_chunk _ _ _ hch]
    cases st with
    | none =>
      simp only []
      rw [spans_words s f' (pos + (n + 1)) (some pos) acc (by omega) (by omega) (fun a h => by injection h; omega)]
      have : curN s (pos + (n + 1)) (some pos) = [] ++ b :: c := by
       show ((bl s).take (pos + (n + 1))).drop pos = _
       rw [tk, List.drop_append_of_le_length (by rw [List.length_take]; omega), List.drop_of_length_le (by rw [List.length_take]; omega)]
      rw [this]
      rfl
    | some a =>
      simp only []
      have ha := hs a rfl
      rw [spans_words s f' (pos + (n + 1)) (some a) acc (by omega) (by omega) (fun a' h => by injection h; omega)]
      have : curN s (pos + (n + 1)) (some a) = ((bl s).take pos).drop a ++ b :: c := by
       show ((bl s).take (pos + (n + 1))).drop a = _
       rw [tk, List.drop_append_of_le_length (by rw [List.length_take]; omega)]
      rw [this]
      rfl
  ·have hd : (bl s).drop pos = [] := List.drop_of_length_le (by omega)
   have he : Lib.spansFromP (· == 32) s f pos st acc = (acc, st) := Lib.spansFromP_end _ s f pos st acc hlt
   rw [he, hd]
   cases st with
   | none => simp [Lib.closeSpans, curN, wG]
   | some a =>
     have ha := hs a rfl
     have hne : ((bl s).take pos).drop a ≠ [] := by
      intro h
      have := congrArg List.length h
      rw [List.length_drop, List.length_take] at this
      simp at this
      omega
     show (acc ++ [(a, s.size)]).map _ = _ ++ (if ((bl s).take pos).drop a = [] then [] else [((bl s).take pos).drop a])
     rw [if_neg hne, List.map_append, show pos = s.size by omega]
     simp only [List.map_cons, List.map_nil, bl_extract]
theorem fields_words (s : ByteArray) : (Lib.goFieldsP (· == 32) s).map bl = wordsN (bl s) := by
 unfold Lib.goFieldsP Lib.spansOfP wordsN
 rw [List.map_map]
 have := spans_words s s.size 0 none [] (by omega) (Nat.zero_le _) (fun a h => by cases h)
 rw [List.drop_zero] at this
 exact this
end Go.Proofs.YtlgencbldbpbdaaGreatDoor
namespace Go.Proofs.YtlgencbldbpbdaaGreatDoor
open Go.RowKit Fl
theorem k90 (x : Nat) (W : World) : FnGives Tryz.prog 90 #[] #[.int .i32 x] (.bool (x == 32)) W := by
 show Calls Tryz.prog 90 #[.int .i32 x] W _
 have b1 : ((x : Int) == 32) = (x == 32) := by
  by_cases h : x = 32
  ·rw [h]; rfl
  ·have h2 : ¬ (x : Int) = 32 := by omega
   rw [beq_eq_false_iff_ne.2 h, beq_eq_false_iff_ne.2 h2]
 go_enter Tryz.func90, Tryz.ntmps90
 cases h : (x == 32)
 ·rw [h] at b1
  have h2 : ¬ (x : Int) = 32 := by simpa using b1
  clear h
  go_wp2_with fail
  go_ret
  exact ⟨rfl, 0, rfl⟩
 ·rw [h] at b1
  have h2 : (x : Int) = 32 := by simpa using b1
  clear h
  go_wp2_with fail
  go_ret
  exact ⟨rfl, 0, rfl⟩
theorem k89 (s : ByteArray) (w : World) (hs : s.size ≤ 100000) : Calls Tryz.prog 89 #[.string s, .func (.func 90) #[] #[]] w fun e w' => ∃ A xs, xs.map bl = wordsN (bl s) ∧ e = .returned (.slice (some ⟨A, 0, none⟩) xs.length xs.length) ∧ (0 < xs.length → LS w' A xs) ∧ w'.ownsRow w.heap.size 9 1 (.slice (some ⟨A, 0, none⟩) xs.length xs.length) xs.length (xs.map Value.string) ∧ Below w.heap.size w w' := by
 refine (strings_FieldsFunc_runes 90 #[] (fun args w => by kernel_rfl) (· == 32) s w (by omega) (fun W x _ _ => k90 x W)).mono ?_
 rintro e w' ⟨A, he, hA, ho, hb⟩
 refine ⟨A, Lib.goFieldsP (· == 32) s, fields_words s, he, fun h0 => ?_, ho, hb⟩
 obtain ⟨g, cap, e1, h1, h2, h3, h4⟩ := own_cells ho h0
 injection e1 with a1 a2 a3
 injection a1 with a1
 injection a1 with a1
 subst a1
 exact ⟨h2, fun k x hk => h4 k _ (by rw [List.getElem?_map, hk]; rfl)⟩
def pctF (l : List Nat) : Option Nat := if l.getLast? = some 37 then numE l.dropLast else none
def ptW : List (List Nat) → Option (Nat × List Nat)
 | [a] => (numE a).map fun x => (x, [])
 | [a, b] => (numE a).bind fun x => (pctF b).map fun y => (x, [y])
 | [a, b, c] => (numE a).bind fun x => (pctF b).bind fun y => (pctF c).map fun z => (x, [y, z])
 | _ => none
def ptF (l : List Nat) : Option (Nat × List Nat) := ptW (wordsN l)
def ptsF (l : List (List Nat)) : Option Ez := if l.length < 2 ∨ 100 < l.length then none else (l.mapM ptF).map .pts
def Bx (w : World) (p : Nat) (v : Value) : Prop := w.heap[p]? = some (.cells #[v] 144 (0, 0))
theorem Bx.lt {w : World} {p : Nat} {v : Value} (h : Bx w p v) : p < w.heap.size := (Array.getElem?_eq_some_iff.1 h).1
theorem Bx.cell {w : World} {p : Nat} {v : Value} (h : Bx w p v) : w.cell? ⟨p, 0, none⟩ = some v := by
 unfold Bx at h
 simp [World.cell?, h]
theorem Bx.frozen {w : World} {p : Nat} {v : Value} (h : Bx w p v) : w.frozen? ⟨p, 0, none⟩ = false := by
 unfold Bx at h
 simp [World.frozen?, h]
theorem Bx.new (w : World) (v : Value) : Bx (w.alloc (.cells #[v] 144)) w.heap.size v := heap_alloc_new w _
theorem Bx.grown {w w' : World} {p : Nat} {v : Value} {row : Option Nat} (h : Bx w p v) (hg : w.grownBy w' row) (hne : row ≠ some p) : Bx w' p v := by
 unfold Bx
 rw [hg.block p h.lt (fun e => hne e.symm)]
 exact h
theorem Bx.below {w w' : World} {p : Nat} {v : Value} (h : Bx w p v) (hb : Below w.heap.size w w') : Bx w' p v := (hb.block p h.lt).trans h
theorem grown_set (W : World) (b : Nat) (v : Value) : W.grownBy (W.setCell ⟨b, 0, none⟩ v) (some b) :=
 ⟨rfl, rfl, rfl, by simp [World.setCell], fun k _ hk => Below.heap_setCell _ _ _ k (fun e => hk (by rw [e]))⟩
theorem Bx.set {w : World} {p : Nat} {v : Value} (h : Bx w p v) (u : Value) : Bx (w.setCell ⟨p, 0, none⟩ u) p u := by
 unfold Bx at h ⊢
 unfold World.setCell
 simp [Array.getElem?_modify, h]
theorem own_box {w : World} {B e size n p : Nat} {v u : Value} {xs : List Value} (h : w.ownsRow B e size v n xs) (hb : Bx w p u) (he : e ≠ 144) : v.ownBlock ≠ some p := by
 intro hv
 rcases h.2 with ⟨rfl, -⟩ | ⟨g, cap, cur, rfl, -, hg, -⟩
 ·cases hv
 ·injection hv with hv
  have hv : g = p := hv
  subst hv
  unfold Bx at hb
  rw [hg] at hb
  injection hb with hb
  injection hb with _ h2
  exact he h2
theorem own_two {w : World} {B B' e e' size size' n n' : Nat} {v v' : Value} {xs xs' : List Value} (h : w.ownsRow B e size v n xs) (h' : w.ownsRow B' e' size' v' n' xs') (he : e ≠ e') : v.ownBlock = none ∨ v.ownBlock ≠ v'.ownBlock := by
 rcases h.2 with ⟨rfl, -⟩ | ⟨g, cap, cur, rfl, -, hg, -⟩
 ·exact .inl rfl
 ·refine .inr fun hv => ?_
  rcases h'.2 with ⟨rfl, -⟩ | ⟨g', cap', cur', rfl, -, hg', -⟩
  ·cases hv
  ·injection hv with hv
   have hv : g = g' := hv
   subst hv
   rw [hg] at hg'
   injection hg' with hb
   injection hb with _ h2
   exact he h2
theorem grown_trans {w w1 w2 : World} {row : Option Nat} (h1 : w.grownBy w1 row) (h2 : w1.grownBy w2 row) : w.grownBy w2 row :=
 ⟨h2.os.trans h1.os, h2.tape.trans h1.tape, h2.output.trans h1.output, Nat.le_trans h1.size h2.size, fun k hk hne => (h2.block k (Nat.lt_of_lt_of_le hk h1.size) hne).trans (h1.block k hk hne)⟩
theorem app_two {w0 : World} {ops : Array Oper} {rest : List Oper} {o : Oper} {a : Act} {Q : Exit → Act → World → Prop} (hgd : o.guard = none) (s x : Operand) (t e : TypeId)
  (ho : o.op = .call { callee := .builtin .append, args := #[s, x], argTypes := #[t, t] }) (z : Value) (size bytes : Nat) (hu : Tryz.prog.underlying t = some (.slice e)) (hinfo : (Tryz.prog.info? e).map (fun i => (i.zero, i.size, i.bytes)) = some (some z, size, bytes)) (hzs : z.cells.size = size) (hs0 : 0 < size)
  (B : Nat) (v : Value) (n : Nat) (xs : List Value) (hs : a.eval s = v) (hown : w0.ownsRow B e size v n xs) (cs : Array Value) (hcs : cs.size = size) (h1 : ∀ u ∈ cs.toList, u.oneCell' = true) (hx : a.eval x = .slice (some ⟨w0.heap.size, 0, none⟩) 1 1) (hn : n ≤ 1000000) (hb : (n + 1) * bytes ≤ 140737488355328) (hB : B ≤ w0.heap.size)
  (h : ∀ v' w', w'.ownsRow B e size v' (n + 1) (xs ++ cs.toList) → w0.grownBy w' v.ownBlock → wpList Tryz.prog ops Q rest (a.put o.dst v') w') : wpList Tryz.prog ops Q (o :: rest) a (w0.alloc (.cells cs e)) := by
 obtain ⟨i0, hi, hz0, hz1, hz2⟩ := info_parts hinfo
 refine wpList_append_own _ hgd s x t ho B e i0 z size bytes hu hi hz0 hz1 hz2 hzs hs0 v n xs hs (hown.alloc _) ⟨w0.heap.size, 0, none⟩ 1 1 cs.toList hx (by rw [Array.length_toList, hcs, Nat.one_mul]) ?_ h1 (by unfold maxLen; omega) hb (by simp; omega) ?_
 ·intro j u hj
  have := World.cell?_alloc_new w0 cs e j
  rw [show (Addr.add ⟨w0.heap.size, 0, none⟩ j) = ⟨w0.heap.size, j, none⟩ by simp [Addr.add]; omega]
  rw [this]
  simpa using hj
 ·intro v' w' own grow _
  exact h v' w' own (grown_trans (World.grownBy_alloc w0 _ _) grow)
theorem own_row {w w0 : World} {B e size n : Nat} {v : Value} {xs : List Value} (h : w.ownsRow B e size v n xs) {w' : World} (hb : Below B w0 w) (hB : B ≤ w.heap.size) (hg : w.grownBy w' v.ownBlock) : Below B w0 w' :=
 hb.grown hg hB fun k hk => (h.lt k hk).1
def OV (w : World) (B : Nat) (v : Value) (es : List En) : Prop := ∃ xs, w.ownsRow B 148 3 v es.length xs ∧
 ∀ k e, es[k]? = some e → ∃ o a, RV o e.1 ∧ (∀ p, e.2 = some p → RV a p) ∧ xs[k * 3]? = some (.float .f64 o) ∧ xs[k * 3 + 1]? = some (.float .f64 a) ∧ xs[k * 3 + 2]? = some (.bool e.2.isSome)
theorem OV.nil (w : World) (B : Nat) : OV w B (.slice none 0 0) [] := ⟨[], World.ownsRow_nil w B 148 3, fun k e h => by cases h⟩
theorem OV.oe {w : World} {B : Nat} {v : Value} {es : List En} (h : OV w B v es) (hn : 0 < es.length) : ∃ g c, v = .slice (some ⟨g, 0, none⟩) es.length c ∧ OE w B g es.length c es := by
 obtain ⟨xs, ho, hx⟩ := h
 rcases ho.2 with ⟨-, h2⟩ | ⟨g, cap, cur, rfl, h3⟩
 ·omega
 ·exact ⟨g, cap, rfl, rfl, xs, ho, hx⟩
theorem OV.snoc {w w' : World} {B : Nat} {v v' : Value} {es : List En} {xs : List Value} (ho : w.ownsRow B 148 3 v es.length xs)
  (hx : ∀ k e, es[k]? = some e → ∃ o a, RV o e.1 ∧ (∀ p, e.2 = some p → RV a p) ∧ xs[k * 3]? = some (.float .f64 o) ∧ xs[k * 3 + 1]? = some (.float .f64 a) ∧ xs[k * 3 + 2]? = some (.bool e.2.isSome))
  {e : En} {o a : Nat} (h1 : RV o e.1) (h2 : ∀ p, e.2 = some p → RV a p) (hw : w'.ownsRow B 148 3 v' (es.length + 1) (xs ++ [.float .f64 o, .float .f64 a, .bool e.2.isSome])) : OV w' B v' (es ++ [e]) := by
 have hl : xs.length = es.length * 3 := ho.1
 refine ⟨_, by rw [List.length_append]; exact hw, fun k e' hk => ?_⟩
 by_cases hlt : k < es.length
 ·rw [List.getElem?_append_left hlt] at hk
  obtain ⟨o', a', r1, r2, x1, x2, x3⟩ := hx k e' hk
  exact ⟨o', a', r1, r2, by rw [List.getElem?_append_left (by omega)]; exact x1, by rw [List.getElem?_append_left (by omega)]; exact x2, by rw [List.getElem?_append_left (by omega)]; exact x3⟩
 ·have hlen := (List.getElem?_eq_some_iff.1 hk).1
  rw [List.length_append] at hlen
  simp at hlen
  have hke : k = es.length := by omega
  subst hke
  rw [List.getElem?_append_right (Nat.le_refl _), Nat.sub_self] at hk
  injection hk with hk
  subst hk
  refine ⟨o, a, h1, h2, ?_, ?_, ?_⟩
  ·rw [List.getElem?_append_right (by omega), hl, Nat.sub_self]; rfl
  ·rw [List.getElem?_append_right (by omega), hl, Nat.add_sub_cancel_left]; rfl
  ·rw [List.getElem?_append_right (by omega), hl, Nat.add_sub_cancel_left]; rfl
theorem OV.kept {w w' : World} {B : Nat} {v : Value} {es : List En} {row : Option Nat} (h : OV w B v es) (hg : w.grownBy w' row) (hne : v.ownBlock = none ∨ v.ownBlock ≠ row) : OV w' B v es := by
 obtain ⟨xs, ho, hx⟩ := h
 exact ⟨xs, ho.kept hg hne, hx⟩
theorem OV.below {w w' : World} {B : Nat} {v : Value} {es : List En} (h : OV w B v es) (hb : Below w.heap.size w w') : OV w' B v es := by
 obtain ⟨xs, ho, hx⟩ := h
 exact ⟨xs, own_below1 ho hb, hx⟩
def PT (w0 w : World) (B p : Nat) (es : List En) (u : Value) (ts : List Value) : Prop := B ≤ p ∧ (∃ v, Bx w p v ∧ OV w B v es) ∧ w.ownsRow B 9 1 u ts.length ts ∧ Below B w0 w
theorem PT.below {w0 w w' : World} {B p : Nat} {es : List En} {u : Value} {ts : List Value} (h : PT w0 w B p es u ts) (hb : Below w.heap.size w w') : PT w0 w' B p es u ts := by
 obtain ⟨h0, ⟨v, h1, h2⟩, h3, h4⟩ := h
 exact ⟨h0, ⟨v, h1.below hb, h2.below hb⟩, own_below1 h3 hb, h4.trans (hb.mono (Nat.le_trans h0 (Nat.le_of_lt h1.lt)))⟩
theorem PT.point {w0 w w' : World} {B p : Nat} {es : List En} {u v v' : Value} {ts xs : List Value} (h0 : B ≤ p) (hx : Bx w p v) (ho : w.ownsRow B 148 3 v es.length xs)
  (hr : ∀ k e, es[k]? = some e → ∃ o a, RV o e.1 ∧ (∀ p, e.2 = some p → RV a p) ∧ xs[k * 3]? = some (.float .f64 o) ∧ xs[k * 3 + 1]? = some (.float .f64 a) ∧ xs[k * 3 + 2]? = some (.bool e.2.isSome))
  (hu : w.ownsRow B 9 1 u ts.length ts) (hb : Below B w0 w) {e : En} {o a : Nat} (h1 : RV o e.1) (h2 : ∀ p, e.2 = some p → RV a p)
  (hw : w'.ownsRow B 148 3 v' (es.length + 1) (xs ++ [.float .f64 o, .float .f64 a, .bool e.2.isSome])) (hg : w.grownBy w' v.ownBlock) : PT w0 (w'.setCell ⟨p, 0, none⟩ v') B p (es ++ [e]) u ts := by
 have hx' := hx.grown hg (own_box ho hx (by decide))
 have hB : B ≤ w.heap.size := Nat.le_trans h0 (Nat.le_of_lt hx.lt)
 have hs := grown_set w' p v'
 have u1 := hu.kept hg (own_two hu ho (by decide))
 refine ⟨h0, ⟨v', hx'.set v', (OV.snoc ho hr h1 h2 hw).kept hs (.inr (own_box hw hx' (by decide)))⟩, u1.kept hs (.inr (own_box u1 hx' (by decide))), (own_row ho hb hB hg).setCell (p := ⟨p, 0, none⟩) h0 v'⟩
theorem PT.text {w0 w w' : World} {B p : Nat} {es : List En} {u u' : Value} {ts : List Value} (h : PT w0 w B p es u ts) (t : Value) (hw : w'.ownsRow B 9 1 u' (ts.length + 1) (ts ++ [t])) (hg : w.grownBy w' u.ownBlock) : PT w0 w' B p es u' (ts ++ [t]) := by
 obtain ⟨h0, ⟨v, h1, h2⟩, h3, h4⟩ := h
 have hB : B ≤ w.heap.size := Nat.le_trans h0 (Nat.le_of_lt h1.lt)
 obtain ⟨xs, ho, hx⟩ := h2
 refine ⟨h0, ⟨v, h1.grown hg (own_box h3 h1 (by decide)), xs, ho.kept hg (own_two ho h3 (by decide)), hx⟩, by rw [List.length_append]; exact hw, own_row h3 h4 hB hg⟩
end Go.Proofs.YtlgencbldbpbdaaGreatDoor
namespace Go.Proofs.YtlgencbldbpbdaaGreatDoor
open Go.RowKit Fl
theorem wG_len : ∀ (l cur y : List Nat), y ∈ wG cur l → y.length ≤ cur.length + l.length
 | [], cur, y, h => by
   unfold wG at h
   split at h
   ·cases h
   ·rw [List.mem_singleton.1 h]; simp
 | b :: l, cur, y, h => by
   unfold wG at h
   split at h
   ·split at h
    ·have := wG_len l [] y h; simp at this ⊢; omega
    ·rcases List.mem_cons.1 h with rfl | h
     ·simp
     ·have := wG_len l [] y h; simp at this ⊢; omega
   ·have := wG_len l _ y h; simp at this ⊢; omega
theorem words_len {l y : List Nat} (h : y ∈ wordsN l) : y.length ≤ l.length := by
 have := wG_len l [] y h
 simpa using this
theorem mapM_noneG {α β : Type} {f : α → Option β} {l : List α} {k : Nat} {x : α} (h : l[k]? = some x) (hx : f x = none) : l.mapM f = none := by
 induction l generalizing k with
 | nil => simp at h
 | cons y l ih =>
   rw [List.mapM_cons]
   cases k with
   | zero =>
     simp at h; subst h
     rw [hx]; rfl
   | succ k =>
     have := ih (k := k) (by simpa using h)
     cases f y with
     | none => rfl
     | some z => rw [this]; rfl
theorem mapM_take {α β : Type} {f : α → Option β} {l : List α} {k : Nat} {x : α} {y : β} {ys : List β} (hk : l[k]? = some x) (h : (l.take k).mapM f = some ys) (hx : f x = some y) : (l.take (k + 1)).mapM f = some (ys ++ [y]) := by
 rw [List.take_add_one, hk, List.mapM_append, h]
 show (some ys).bind (fun a => ([x].mapM f).bind fun b => some (a ++ b)) = _
 rw [show [x].mapM f = some [y] by rw [List.mapM_cons, hx]; rfl]
 rfl
theorem ptW_bad {l : List (List Nat)} (h : l.length < 1 ∨ 3 < l.length) : ptW l = none := by
 match l, h with
 | [], _ => rfl
 | [_], h => simp at h
 | [_, _], h => simp at h
 | [_, _, _], h => simp at h
 | _ :: _ :: _ :: _ :: _, _ => rfl
theorem ptW_head {a : List Nat} {l : List (List Nat)} (h : numE a = none) : ptW (a :: l) = none := by
 match l with
 | [] => show (numE a).map _ = none; rw [h]; rfl
 | [_] => show (numE a).bind _ = none; rw [h]; rfl
 | [_, _] => show (numE a).bind _ = none; rw [h]; rfl
 | _ :: _ :: _ :: _ => rfl
theorem ptW_some {a : List Nat} {x : Nat} {l : List (List Nat)} {ys : List Nat} (h : numE a = some x) (hl : l.length ≤ 2) (hm : l.mapM pctF = some ys) : ptW (a :: l) = some (x, ys) := by
 match l, hl, hm with
 | [], _, hm =>
   cases hm
   show (numE a).map _ = _
   rw [h]; rfl
 | [b], _, hm =>
   rw [List.mapM_cons] at hm
   show (numE a).bind _ = _
   rw [h]
   cases hb : pctF b with
   | none => rw [hb] at hm; cases hm
   | some y => rw [hb] at hm; cases hm; rfl
 | [b, c], _, hm =>
   rw [List.mapM_cons, List.mapM_cons] at hm
   show (numE a).bind _ = _
   rw [h]
   cases hb : pctF b with
   | none => rw [hb] at hm; cases hm
   | some y =>
     rw [hb] at hm
     cases hc : pctF c with
     | none => rw [hc] at hm; cases hm
     | some z => rw [hc] at hm; cases hm; rfl
theorem ptW_tail {a : List Nat} {l : List (List Nat)} {k : Nat} {b : List Nat} (hk : l[k]? = some b) (hb : pctF b = none) : ptW (a :: l) = none := by
 match l, hk with
 | [], hk => cases hk
 | [c], hk =>
   cases k with
   | zero => simp at hk; subst hk; show (numE a).bind (fun x => (pctF c).map _) = none; rw [hb]; cases numE a <;> rfl
   | succ k => simp at hk
 | [c, d], hk =>
   match k, hk with
   | 0, hk => simp at hk; subst hk; show (numE a).bind (fun x => (pctF c).bind _) = none; rw [hb]; cases numE a <;> rfl
   | 1, hk => simp at hk; subst hk; show (numE a).bind (fun x => (pctF c).bind fun y => (pctF d).map _) = none; rw [hb]; cases numE a <;> cases pctF c <;> rfl
   | k + 2, hk => simp at hk
 | _ :: _ :: _ :: _, _ => rfl
def en1 (x : Nat) (ys : List Nat) : List En := ys.map fun q => (pl x, some (opP .quo (pl q) (iP 100)))
theorem entP_snoc (ps : List (Nat × List Nat)) (x : Nat) (ys : List Nat) : entP (ps ++ [(x, ys)]) = entP ps ++ (if ys = [] then [(pl x, none)] else en1 x ys) := by
 unfold entP en1
 rw [List.flatMap_append]
 simp
theorem hasL (l : List UInt8) : Lib.hasSuffix l [37] = decide ((l.map UInt8.toNat).getLast? = some 37) := by
 unfold Lib.hasSuffix
 rw [Bool.eq_iff_iff, decide_eq_true_iff, List.isSuffixOf_iff_suffix]
 rcases List.eq_nil_or_concat l with rfl | ⟨r, b, rfl⟩
 ·simp
 ·rw [List.concat_eq_append, List.map_append]
  simp only [List.map_cons, List.map_nil, List.getLast?_append, List.getLast?_singleton]
  constructor
  ·rintro ⟨t, ht⟩
   have := congrArg List.getLast? ht
   simp at this
   subst this
   rfl
  ·intro h
   have hb : b.toNat = 37 := by simpa using h
   have : b = 37 := UInt8.toNat_inj.1 hb
   subst this
   exact ⟨r, rfl⟩
theorem hasP (s : ByteArray) : Lib.hasSuffix s.data.toList [37] = decide ((bl s).getLast? = some 37) := hasL _
theorem trimP (s : ByteArray) (h : (bl s).getLast? = some 37) : bl ⟨(Lib.trimSuffix s.data.toList [37]).toArray⟩ = (bl s).dropLast := by
 show (Lib.trimSuffix s.data.toList [37]).map UInt8.toNat = (s.data.toList.map UInt8.toNat).dropLast
 unfold Lib.trimSuffix
 have h' : decide ((s.data.toList.map UInt8.toNat).getLast? = some 37) = true := decide_eq_true h
 rw [hasL, if_pos h', List.map_take, List.dropLast_eq_take, List.length_map]
 rfl
theorem trimP_len (s : ByteArray) : (Lib.trimSuffix s.data.toList [37]).length ≤ s.size := by
 unfold Lib.trimSuffix
 have : s.size = s.data.toList.length := rfl
 split
 ·rw [List.length_take]; omega
 ·omega
theorem pct_ok (s : ByteArray) : pctF (bl s) = if Lib.hasSuffix s.data.toList [37] = true then numE (bl ⟨(Lib.trimSuffix s.data.toList [37]).toArray⟩) else none := by
 unfold pctF
 rw [hasP]
 by_cases h : (bl s).getLast? = some 37
 ·rw [if_pos h, if_pos (decide_eq_true h), trimP s h]
 ·rw [if_neg h, if_neg (by simp [h])]
theorem sl_str (A n : Nat) (h1 : 1 ≤ n) (hn : n ≤ 1000000) : ∃ S, (∀ W, (Instr.sliceAt 36 (.slice (some ⟨A, 0, none⟩) n n) (some (.int .i64 1)) none none).run Tryz.prog W = .ok (.slice S (n - 1) (n - 1)) W) ∧ (0 < n - 1 → S = some ⟨A, 1, none⟩) := by
 have e1 : Tryz.prog.elem 36 = 9 := by kernel_rfl
 have e2 : ∀ W, (sizeOf 9).run Tryz.prog W = .ok 1 W := Tryz.sizeOf9
 have hu : Tryz.prog.underlying 36 = some (.slice (Tryz.prog.elem 36)) := by rw [e1]; exact Tryz.underlying36
 by_cases hne : n = 1
 ·subst hne
  refine ⟨some ⟨A, 0, none⟩, fun W => ?_, fun h => by omega⟩
  rw [run_sliceAt_slice W 36 _ _ _ _ hu, run_slice_l W 36 (some ⟨A, 0, none⟩) 1 1 hu .i64 1 (by omega) (by omega), e1, e2]
  simp [Result.andThen_ok, sliced]
 ·refine ⟨some ⟨A, 1, none⟩, fun W => ?_, fun _ => rfl⟩
  rw [run_sliceAt_slice W 36 _ _ _ _ hu, run_slice_l W 36 (some ⟨A, 0, none⟩) n n hu .i64 1 (by omega) (by omega), e1, e2]
  simp [Result.andThen_ok, sliced, hne, Addr.add]
theorem join_bl : ∀ l : List ByteArray, (Lib.join (l.map (·.data.toList)) [44, 32]).map UInt8.toNat = joinN (l.map bl)
 | [] => rfl
 | [a] => by rw [List.map_cons, List.map_nil, Lib.join_one]; rfl
 | a :: b :: l => by
   have ih := join_bl (b :: l)
   have e : Lib.join ((a :: b :: l).map (·.data.toList)) [44, 32] = a.data.toList ++ [44, 32] ++ Lib.join ((b :: l).map (·.data.toList)) [44, 32] := by
    simp [Lib.join, List.intercalate, List.intersperse]
   rw [e, List.map_append, ih]
   simp only [List.map_append]
   rfl
theorem join_len : ∀ l : List ByteArray, (∀ s ∈ l, s.size ≤ 200) → (Lib.join (l.map (·.data.toList)) [44, 32]).length ≤ 202 * l.length
 | [], _ => by rw [List.map_nil, Lib.join_nil]; simp
 | [a], h => by
   rw [List.map_cons, List.map_nil, Lib.join_one]
   have := h a (List.mem_cons_self ..)
   have e : a.size = a.data.toList.length := rfl
   simp only [List.length_cons, List.length_nil]
   omega
 | a :: b :: l, h => by
   have ih := join_len (b :: l) (fun s hs => h s (List.mem_cons_of_mem _ hs))
   have e : Lib.join ((a :: b :: l).map (·.data.toList)) [44, 32] = a.data.toList ++ [44, 32] ++ Lib.join ((b :: l).map (·.data.toList)) [44, 32] := by
    simp [Lib.join, List.intercalate, List.intersperse]
   have := h a (List.mem_cons_self ..)
   have e2 : a.size = a.data.toList.length := rfl
   rw [e]
   simp only [List.length_append, List.length_cons, List.length_nil] at ih ⊢
   omega
end Go.Proofs.YtlgencbldbpbdaaGreatDoor
namespace Go.Proofs.YtlgencbldbpbdaaGreatDoor
open Go.RowKit Fl
def TX (ts : List Value) (ps : List (Nat × List Nat)) : Prop := ts.length = ps.length ∧ ∀ (k : Nat) q, ps[k]? = some q → ∃ s : ByteArray, ts[k]? = some (Value.string s) ∧ bl s = ptT q ∧ s.size ≤ 200
theorem fn_pts {w : World} {B g N c p : Nat} {ps : List (Nat × List Nat)} (hb : Bx w p (.slice (some ⟨g, 0, none⟩) N c)) (ho : OE w B g N c (someE (rowsP ps))) (h2 : 2 ≤ N) (hn : N ≤ 1000) : FnAt w (.pts ps) (.func (.func 94) #[] #[ptr p]) := by
 have hl : (rowsP ps).length = N := by rw [← some_len]; exact ho.1
 refine ⟨p, g, N, c, rfl, hb.lt, ho.block.2, h2, hn, ho.cap, hl, hb.cell, fun k r hk => ?_⟩
 obtain ⟨o, a, h1, h3, ⟨c1, c2, c3⟩, -, -⟩ := ho.cells (k := k) (e := (r.1, some r.2)) (some_get hk)
 exact ⟨o, a, h1, h3 r.2 rfl, c1, c2, c3⟩
theorem TX.strs : ∀ {ts : List Value} {ps : List (Nat × List Nat)}, TX ts ps → ∃ ss : List ByteArray, ts = ss.map Value.string ∧ ss.map bl = ps.map ptT ∧ ∀ s ∈ ss, s.size ≤ 200
 | [], [], _ => ⟨[], rfl, rfl, fun s h => by cases h⟩
 | [], _ :: _, h => by have := h.1; simp at this
 | _ :: _, [], h => by have := h.1; simp at this
 | t :: ts, q :: ps, h => by
   obtain ⟨s, h1, h2, h3⟩ := h.2 0 q rfl
   have e : t = .string s := by simpa using h1
   have ht : TX ts ps := ⟨by have := h.1; simpa using this, fun k q' hk => h.2 (k + 1) q' hk⟩
   obtain ⟨ss, e1, e2, e3⟩ := TX.strs ht
   refine ⟨s :: ss, by rw [e, e1]; rfl, by rw [List.map_cons, List.map_cons, h2, e2], fun x hx => ?_⟩
   rcases List.mem_cons.1 hx with rfl | hx
   ·exact h3
   ·exact e3 x hx
theorem TX.snoc {ts : List Value} {ps : List (Nat × List Nat)} {t : ByteArray} {q : Nat × List Nat} (h : TX ts ps) (hb : bl t = ptT q) (ht : t.size ≤ 200) : TX (ts ++ [.string t]) (ps ++ [q]) := by
 refine ⟨by rw [List.length_append, List.length_append, h.1]; rfl, fun k q' hk => ?_⟩
 by_cases hlt : k < ps.length
 ·rw [List.getElem?_append_left hlt] at hk
  obtain ⟨s, h1, h2, h3⟩ := h.2 k q' hk
  exact ⟨s, by rw [List.getElem?_append_left (by rw [h.1]; exact hlt)]; exact h1, h2, h3⟩
 ·have hl := (List.getElem?_eq_some_iff.1 hk).1
  rw [List.length_append] at hl
  simp at hl
  have e : k = ps.length := by omega
  subst e
  rw [List.getElem?_append_right (Nat.le_refl _), Nat.sub_self] at hk
  injection hk with hk
  subst hk
  exact ⟨t, by rw [List.getElem?_append_right (by rw [h.1]; exact Nat.le_refl _), h.1, Nat.sub_self]; rfl, hb, ht⟩
set_option maxRecDepth 100000 in
set_option maxHeartbeats 4000000 in
theorem k46 (A : Nat) (xs : List ByteArray) (c : Nat) (w : World) (hw : LS w A xs) (he : EW w) (hs : ∀ x ∈ xs, x.size ≤ 2000) (hl : xs.length ≤ 100000) :
  Calls Tryz.prog 46 #[.slice (some ⟨A, 0, none⟩) xs.length c] w fun e w' => ParseR w (ptsF (xs.map bl)) e w' := by
 have HW := Lib.hid (And.intro hw (And.intro he hs))
 have BD := Lib.hid (fun (w1 : World) => k36 w1)
 obtain ⟨R, hR0⟩ : ∃ R, R = ptsF (xs.map bl) := ⟨_, rfl⟩
 rw [← hR0]
 have hR := Lib.hid hR0
 obtain ⟨n, hn⟩ : ∃ n, n = xs.length := ⟨_, rfl⟩
 rw [← hn] at hl ⊢
 have HN := Lib.hid hn
 clear hw he hs hR0 hn
 go_enter Tryz.func46, Tryz.ntmps46
 by_cases h2 : n < 2 ∨ 100 < n
 ·have e1 : Hid (R = none) := Lib.hid (by rw [hR.out]; unfold ptsF; rw [if_pos (by rw [List.length_map, ← HN.out]; exact h2)])
  have hc : (n : Int) < 2 ∨ (n : Int) > 100 := by omega
  clear h2
  by_cases h3 : (n : Int) < 2
  ·clear hc
   go_wp2_with (go_at_call 36; refine (BD.out _).mono ?_; rintro e w9 ⟨N9, rfl, hb9⟩; have B9 := Lib.hid hb9; clear hb9)
   go_ret2
   rw [e1.out]
   exact ⟨N9, rfl, B9.out⟩
  ·have h4 : (n : Int) > 100 := by omega
   clear hc
   go_wp2_with (go_at_call 36; refine (BD.out _).mono ?_; rintro e w9 ⟨N9, rfl, hb9⟩; have B9 := Lib.hid hb9; clear hb9)
   go_ret2
   rw [e1.out]
   exact ⟨N9, rfl, B9.out⟩
 have n2 : 2 ≤ n := by omega
 have n100 : n ≤ 100 := by omega
 have hc1 : ¬ (n : Int) < 2 := by omega
 have hc2 : ¬ (n : Int) > 100 := by omega
 have hR2 : Hid (R = ((xs.map bl).mapM ptF).map .pts) := Lib.hid (by rw [hR.out]; unfold ptsF; rw [if_neg (by rw [List.length_map, ← HN.out]; exact h2)])
 have NN := Lib.hid (And.intro n2 n100)
 clear h2 hl hR n2 n100
 have P0 : Hid (PT w (w.alloc (.cells #[.slice none 0 0] 144)) w.heap.size w.heap.size [] (.slice none 0 0) []) := Lib.hid ⟨Nat.le_refl _, ⟨_, Bx.new w _, OV.nil _ _⟩, World.ownsRow_nil _ _ _ _, (Below.refl _ _).alloc (Nat.le_refl _) _⟩
 go_wp2_with fail
 go_loopw [5, 29] (fun u i wx => ∃ (k : Nat) (ps : List (Nat × List Nat)) (ts : List Value), k ≤ n ∧ i = .int .i64 k ∧ Hid (((xs.map bl).take k).mapM ptF = some ps ∧ TX ts ps ∧ k ≤ (entP ps).length ∧ (entP ps).length ≤ 2 * k ∧ ps.length = k) ∧ Hid (PT w wx w.heap.size w.heap.size (entP ps) u ts)) (fun _ i _ => n - (Lib.intOf i).toNat)
 case atStart => exact ⟨0, [], [], Nat.zero_le _, rfl, Lib.hid ⟨rfl, ⟨rfl, fun k q h => by cases h⟩, by simp [entP], by simp [entP], rfl⟩, P0⟩
 case round =>
  clear P0
  obtain ⟨k, ps, ts, hk, rfl, hP, hT⟩ := hrel
  by_cases hlt : k < n
  ·have hki : (k : Int) < (n : Int) := by omega
   obtain ⟨x, hx⟩ : ∃ x, xs[k]? = some x := ⟨xs[k]'(by have := HN.out; omega), List.getElem?_eq_getElem _⟩
   have kc := (HW.out.1.below (hT.out.2.2.2)).2 k x hx
   have HX := Lib.hid (And.intro hx hlt)
   have sx : x.size ≤ 2000 := HW.out.2.2 x (List.mem_of_getElem? hx)
   have C89 := Lib.hid (fun (w1 : World) => k89 x w1 (by omega))
   have SX := Lib.hid sx
   clear hx hlt sx hk
   go_upto_region 9 with (go_at_call 89; refine (C89.out _).mono ?_; rintro e w2 ⟨A2, ws, hw2, rfl, hl2, hb2⟩; have B2 := Lib.hid (And.intro hw2 (And.intro hl2 hb2)); clear hw2 hl2 hb2)
   obtain ⟨m, hm⟩ : ∃ m, m = ws.length := ⟨_, rfl⟩
   rw [← hm]
   have hwl : (wordsN (bl x)).length = m := by rw [← B2.out.1, List.length_map, hm]
   have T2 := Lib.hid (hT.out.below B2.out.2.2.2)
   have O2 := Lib.hid (hm ▸ B2.out.2.2.1)
   have hbad : m < 1 ∨ 3 < m → R = none := fun h => by
    rw [hR2.out, mapM_noneG (l := xs.map bl) (k := k) (x := bl x) (by rw [List.getElem?_map, HX.out.1]; rfl) (by unfold ptF; exact ptW_bad (by rw [hwl]; exact h))]
    rfl
   have HBad := Lib.hid hbad
   have HM := Lib.hid (And.intro hm hwl)
   clear hbad hwl kc hT
   by_cases m1 : m < 1
   ·have c1 : (m : Int) < 1 := by omega
    have e1 := Lib.hid (HBad.out (.inl m1))
    clear m1 hm
    go_wp2_with (go_at_call 36; refine (BD.out _).mono ?_; rintro e w9 ⟨N9, rfl, hb9⟩; have B9 := Lib.hid hb9; clear hb9)
    go_ret2
    rw [e1.out]
    exact BadR.mono ⟨N9, rfl, B9.out⟩ T2.out.2.2.2
   by_cases m3 : 3 < m
   ·have c1 : ¬ (m : Int) < 1 := by omega
    have c2 : (m : Int) > 3 := by omega
    have e1 := Lib.hid (HBad.out (.inr m3))
    clear m1 m3 hm
    go_wp2_with (go_at_call 36; refine (BD.out _).mono ?_; rintro e w9 ⟨N9, rfl, hb9⟩; have B9 := Lib.hid hb9; clear hb9)
    go_ret2
    rw [e1.out]
    exact BadR.mono ⟨N9, rfl, B9.out⟩ T2.out.2.2.2
   have c1 : ¬ (m : Int) < 1 := by omega
   have c2 : ¬ (m : Int) > 3 := by omega
   have c0 : (0 : Int) < (m : Int) := by omega
   obtain ⟨a, r, har⟩ : ∃ a r, ws = a :: r := by
    cases ws with
    | nil => simp at hm; omega
    | cons a r => exact ⟨a, r, rfl⟩
   have L2 := B2.out.2.1 (by omega)
   have ka := L2.2 0 a (by rw [har]; rfl)
   have wl : ∀ y ∈ ws, y.size ≤ 2000 := fun y hy => by
    have h1 : bl y ∈ wordsN (bl x) := by rw [← B2.out.1]; exact List.mem_map_of_mem hy
    have h2 := words_len h1
    rw [bl_len, bl_len] at h2
    have := SX.out
    omega
   have C86 := Lib.hid (fun (w1 : World) => k86 a w1 (by have := wl a (by rw [har]; exact List.mem_cons_self ..); omega))
   have HW2 := Lib.hid (And.intro L2 wl)
   have HA := Lib.hid (And.intro har (And.intro m1 m3))
   have hword : wordsN (bl x) = bl a :: r.map bl := by rw [← B2.out.1, har]; rfl
   have HWd := Lib.hid hword
   clear L2 wl har m1 m3 hm hword HBad
   cases hn : (numE (bl a)).isSome
   ·rw [hn] at C86
    have e1 : Hid (R = none) := Lib.hid (by
     rw [hR2.out, mapM_noneG (l := xs.map bl) (k := k) (x := bl x) (by rw [List.getElem?_map, HX.out.1]; rfl) (by unfold ptF; rw [HWd.out]; exact ptW_head (by cases h : numE (bl a) with | none => rfl | some z => rw [h] at hn; cases hn))]
     rfl)
    clear hn
    go_wp2_with (first
     | (go_at_call 86; refine (C86.out _).mono ?_; rintro e w3 ⟨rfl, hb3⟩; have B3 := Lib.hid hb3; clear hb3)
     | (go_at_call 36; refine (BD.out _).mono ?_; rintro e w9 ⟨N9, rfl, hb9⟩; have B9 := Lib.hid hb9; clear hb9))
    go_ret2
    rw [e1.out]
    exact BadR.mono ⟨N9, rfl, B9.out⟩ (T2.out.2.2.2.trans (B3.out.mono T2.out.2.2.2.size))
   rw [hn] at C86
   have HA2 := Lib.hid (numE_val hn)
   clear hn
   obtain ⟨q, hq⟩ : ∃ q, q = pW (bl a) := ⟨_, rfl⟩
   have UQ := Lib.hid (pW_U (bl a)).1
   rw [← hq] at C86 HA2 UQ
   clear hq
   have CP := Lib.hid (fun (w1 : World) (h : PowTab w1) => lPrint q w1 UQ.out h)
   obtain ⟨S, hS, hS2⟩ := sl_str A2 m (by have := HA.out; omega) (by have := HA.out; omega)
   obtain ⟨d, hd⟩ : ∃ d, d = m - 1 := ⟨_, rfl⟩
   rw [← hd] at hS hS2
   have HS2 := Lib.hid hS2
   have HD := Lib.hid hd
   clear hd hS2
   go_upto_region 16 with (first
     | (go_at_call 86; refine (C86.out _).mono ?_; rintro e w3 ⟨rfl, hb3⟩; have B3 := Lib.hid hb3; clear hb3)
     | (go_at_call 77; refine (CP.out _ ((HW.out.2.1.below T2.out.2.2.2).below B3.out).1).mono ?_; rintro e w4 ⟨⟨z0, rfl, hz0, hz1⟩, hb4⟩; have B4 := Lib.hid hb4; have HZ := Lib.hid (And.intro hz0 hz1); clear hb4 hz0 hz1))
   have T4 := Lib.hid ((T2.out.below B3.out).below B4.out)
   have O4 := Lib.hid (own_below1 (own_below1 O2.out B3.out) B4.out)
   have rl : r.length = d := by have h1 := HM.out.1; rw [HA.out.1, List.length_cons] at h1; have := HD.out; omega
   have RL := Lib.hid rl
   have db : (d : Int) ≤ 2 := by have := HD.out; have := HA.out.2; omega
   clear T2 O2 B3 B4 rl C86 CP C89 hS
   go_wp2_with fail
   go_loopw [11, 63] (fun tv i wx => ∃ (j : Nat) (ys : List Nat) (t : ByteArray), j ≤ d ∧ i = .int .i64 j ∧ tv = .string t ∧ Hid (((r.map bl).take j).mapM pctF = some ys ∧ bl t = ptT (q, ys) ∧ t.size ≤ 61 + 63 * j ∧ ys.length = j) ∧ Hid (∃ b, wx.ownsRow b 9 1 (.slice (some ⟨A2, 0, none⟩) m m) m (ws.map Value.string)) ∧ Hid (PT w wx w.heap.size w.heap.size (entP ps ++ en1 q ys) u5 ts)) (fun _ i _ => d - (Lib.intOf i).toNat)
   case atStart =>
    refine ⟨0, [], z0, Nat.zero_le _, rfl, rfl, Lib.hid ⟨rfl, ?_, by have := HZ.out.2; omega, rfl⟩, Lib.hid ⟨_, O4.out⟩, Lib.hid ?_⟩
    ·rw [HZ.out.1]; unfold ptT; simp
    ·rw [show en1 q [] = [] from rfl, List.append_nil]; exact T4.out
   case round =>
    clear T4 O4 HZ ka
    obtain ⟨j, ys, t, hj, rfl, rfl, hY, hO, hT⟩ := hrel
    by_cases hjd : j < d
    ·have hjdi : (j : Int) < (d : Int) := by omega
     have hS1 : S = some ⟨A2, 1, none⟩ := HS2.out (by omega)
     subst hS1
     obtain ⟨y, hy⟩ : ∃ y, r[j]? = some y := ⟨r[j]'(by have := RL.out; omega), List.getElem?_eq_getElem _⟩
     have hyw : ws[j + 1]? = some y := by rw [HA.out.1]; exact hy
     obtain ⟨b9, hO9⟩ := hO.out
     obtain ⟨g9, cap9, e9, -, hA2, -, kcs⟩ := own_cells hO9 (by omega)
     injection e9 with a1 a2 a3
     injection a1 with a1
     injection a1 with a1
     subst a1
     clear a2 a3
     have ky := kcs (j + 1) (.string y) (by rw [List.getElem?_map, hyw]; rfl)
     rw [Nat.add_comm j 1] at ky
     have sy : y.size ≤ 2000 := HW2.out.2 y (List.mem_of_getElem? hyw)
     have C91 := Lib.hid (fun (w1 : World) => strings_TrimSuffix y ⟨#[37]⟩ w1 (by omega))
     have C42 := Lib.hid (fun (w1 : World) => strings_HasSuffix y ⟨#[37]⟩ w1 (by omega))
     have PC := pct_ok y
     have ty := trimP_len y
     obtain ⟨y', hy'⟩ : ∃ y' : ByteArray, y' = ⟨(Lib.trimSuffix y.data.toList [37]).toArray⟩ := ⟨_, rfl⟩
     have ty' : y'.size ≤ 2000 := by
      have : y'.size = (Lib.trimSuffix y.data.toList [37]).length := by rw [hy']; rfl
      omega
     rw [show (⟨#[37]⟩ : ByteArray).data.toList = [37] from rfl, ← hy'] at C91
     rw [show (⟨#[37]⟩ : ByteArray).data.toList = [37] from rfl] at C42
     rw [← hy'] at PC
     have C86 := Lib.hid (fun (w1 : World) => k86 y' w1 (by omega))
     obtain ⟨hs, hhs⟩ : ∃ hs, hs = Lib.hasSuffix y.data.toList [37] := ⟨_, rfl⟩
     rw [← hhs] at PC C42
     have HPC := Lib.hid PC
     have HJ := Lib.hid (And.intro hjd (And.intro hj hy))
     have fail_ : pctF (bl y) = none → R = none := fun h => by
      rw [hR2.out, mapM_noneG (l := xs.map bl) (k := k) (x := bl x) (by rw [List.getElem?_map, HX.out.1]; rfl) (by
       unfold ptF; rw [HWd.out]
       exact ptW_tail (k := j) (b := bl y) (by rw [List.getElem?_map, hy]; rfl) h)]
      rfl
     have HF := Lib.hid fail_
     clear fail_ PC hy' hhs ty ty' sy hyw hy hjd hj kcs hA2
     cases hn : (numE (bl y')).isSome
     ·rw [hn] at C86
      have e1 : Hid (R = none) := Lib.hid (HF.out (by
       rw [HPC.out]
       cases h : numE (bl y') with
       | none => split <;> rfl
       | some z => rw [h] at hn; cases hn))
      clear hn
      go_wp2_with (first
       | (go_at_call 91; refine (C91.out _).mono ?_; rintro e w3 ⟨rfl, rfl⟩)
       | (go_at_call 86; refine (C86.out _).mono ?_; rintro e w3 ⟨rfl, hb3⟩; have B3 := Lib.hid hb3; clear hb3)
       | (go_at_call 36; refine (BD.out _).mono ?_; rintro e w9 ⟨N9, rfl, hb9⟩; have B9 := Lib.hid hb9; clear hb9))
      go_ret2
      rw [e1.out]
      exact BadR.mono ⟨N9, rfl, B9.out⟩ (hT.out.2.2.2.trans (B3.out.mono hT.out.2.2.2.size))
     rw [hn] at C86
     have HV := Lib.hid (numE_val hn)
     clear hn
     cases hs
     ·have e1 : Hid (R = none) := Lib.hid (HF.out (by rw [HPC.out]; rfl))
      go_wp2_with (first
       | (go_at_call 91; refine (C91.out _).mono ?_; rintro e w3 ⟨rfl, rfl⟩)
       | (go_at_call 86; refine (C86.out _).mono ?_; rintro e w3 ⟨rfl, hb3⟩; have B3 := Lib.hid hb3; clear hb3)
       | (go_at_call 42; refine (C42.out _).mono ?_; rintro e w5 ⟨rfl, rfl⟩)
       | (go_at_call 36; refine (BD.out _).mono ?_; rintro e w9 ⟨N9, rfl, hb9⟩; have B9 := Lib.hid hb9; clear hb9))
      go_ret2
      rw [e1.out]
      exact BadR.mono ⟨N9, rfl, B9.out⟩ (hT.out.2.2.2.trans (B3.out.mono hT.out.2.2.2.size))
     ·have HPY : Hid (pctF (bl y) = some (pW (bl y'))) := Lib.hid (by rw [HPC.out, if_pos rfl, HV.out])
      obtain ⟨b, hb⟩ : ∃ b, b = pW (bl y') := ⟨_, rfl⟩
      have UB := Lib.hid (pW_U (bl y')).1
      rw [← hb] at C86 HPY UB
      clear hb HV
      have CPB := Lib.hid (fun (w1 : World) (h : PowTab w1) => lPrint b w1 UB.out h)
      obtain ⟨FQ, NQ, fQ, RQ⟩ := opq .quo rfl
      have HRQ := Lib.hid RQ
      clear RQ
      go_upto_region 21 with (first
       | (go_at_call 91; refine (C91.out _).mono ?_; rintro e w3 ⟨rfl, rfl⟩)
       | (go_at_call 86; refine (C86.out _).mono ?_; rintro e w3 ⟨rfl, hb3⟩; have B3 := Lib.hid hb3; clear hb3)
       | (go_at_call 42; refine (C42.out _).mono ?_; rintro e w5 ⟨rfl, rfl⟩))
      have T3 := Lib.hid (hT.out.below B3.out)
      have O3 := Lib.hid (own_below1 hO9 B3.out)
      obtain ⟨v, hbx, vs, hov, hvr⟩ := T3.out.2.1
      have kb := hbx.cell
      have HV3 := Lib.hid (And.intro hbx (And.intro hov (And.intro hvr (And.intro T3.out.2.2.1 T3.out.2.2.2))))
      clear hbx hov hvr T3 hT hO ky C86 C91 C42
      go_wp2_with (at_builtin; refine app_two rfl _ _ 144 148 rfl (.agg #[.float .f64 0, .float .f64 0, .bool false]) 3 24 Tryz.underlying144 (by kernel_rfl) rfl (by decide) w.heap.size _ _ _ rfl HV3.out.2.1 #[.float .f64 q, .float .f64 (FQ b 4636737291354636288 _), .bool true] rfl ?c1 rfl ?c2 ?c3 ?c4 ?_)
      case c1 => first | exact ⟨rfl, rfl, rfl⟩ | (intro u hu; simp at hu; rcases hu with rfl | rfl | rfl <;> rfl)
      case c2 => have h1 := hP.out.2.2.2; have h2 := hY.out.2.2.2; have h3 := NN.out; have := HJ.out; have h4 := HD.out; have h5 := HA.out.2; have := HX.out.2; simp [en1]; omega
      case c3 => have h1 := hP.out.2.2.2; have h2 := hY.out.2.2.2; have h3 := NN.out; have := HJ.out; have h4 := HD.out; have h5 := HA.out.2; have := HX.out.2; simp [en1]; omega
      case c4 => exact HV3.out.2.2.2.2.size
      intro v8 w8 hown hg
      obtain ⟨g8, c8, m8, rfl⟩ : ∃ g8 c8 m8, v8 = .slice (some ⟨g8, 0, none⟩) m8 c8 := by
       rcases hown.2 with ⟨-, h⟩ | ⟨g, cap, _, e, _⟩
       ·omega
       ·exact ⟨g, cap, _, e⟩
      have hb8 : Bx w8 w.heap.size v := Bx.grown (show Bx (w5.drewN _) w.heap.size v from HV3.out.1) hg (own_box HV3.out.2.1 HV3.out.1 (by decide))
      have k8 := hb8.cell
      have f8 := hb8.frozen
      have r100 : RV 4636737291354636288 (iP 100) := ⟨by unfold U; decide, by decide +kernel⟩
      have hown' : w8.ownsRow w.heap.size 148 3 (.slice (some ⟨g8, 0, none⟩) m8 c8) ((entP ps ++ en1 q ys).length + 1) (vs ++ [.float .f64 q, .float .f64 (FQ b 4636737291354636288 w5), .bool true]) := by rw [List.length_append]; exact hown
      have HP8 := Lib.hid (PT.point (w := w5.drewN (NQ b 4636737291354636288)) (e := (pl q, some (opP .quo (pl b) (iP 100)))) (o := q) (a := FQ b 4636737291354636288 w5) (Nat.le_refl _) HV3.out.1 HV3.out.2.1 HV3.out.2.2.1 HV3.out.2.2.2.1 (Bdn HV3.out.2.2.2.2 _) (RV.self UQ.out) (fun p hp => by injection hp with hp; subst hp; exact HRQ.out _ _ _ _ _ (RV.self UB.out) r100) hown' hg)
      have HO8 : Hid (w8.ownsRow _ 9 1 (.slice (some ⟨A2, 0, none⟩) m m) m (ws.map Value.string)) := Lib.hid (World.ownsRow.kept (w := w5.drewN (NQ b 4636737291354636288)) O3.out hg (own_two (w := w5) O3.out HV3.out.2.1 (by decide)))
      have HO9 := Lib.hid (HO8.out.kept (grown_set w8 w.heap.size (.slice (some ⟨g8, 0, none⟩) m8 c8)) (.inr (own_box HO8.out hb8 (by decide))))
      clear hown hown' hg hb8 r100 HO8
      have SZ : Hid (∀ z : Nat, (z : Int) ≤ 61 → ¬ 9223372036854775807 < 1 + z ∧ ¬ 9223372036854775807 < 1 + z + 1 ∧ ¬ 9223372036854775807 < t.size + (1 + z + 1)) := Lib.hid (fun z hz => by
       have tz := hY.out.2.2.1
       have dz := HD.out
       have az := HA.out.2
       have jz := HJ.out.1
       omega)
      have HQ := Lib.hid ((HW.out.2.1.below HP8.out.2.2.2).1)
      go_wp2_with (go_at_call 77; refine (CPB.out _ HQ.out).mono ?_; rintro e w6 ⟨⟨z1, rfl, hz, hz1⟩, hb4⟩; have B4 := Lib.hid hb4; have HZ1 := Lib.hid (And.intro hz hz1); obtain ⟨f1, f2, f3⟩ := SZ.out _ hz1; clear hb4 hz hz1)
      go_roundw
      case rel =>
       refine ⟨j + 1, ys ++ [b], _, HJ.out.1, by go_num, rfl, Lib.hid ⟨?_, ?_, ?_, ?_⟩, Lib.hid ⟨_, own_below1 HO9.out B4.out⟩, Lib.hid ?_⟩
       ·exact mapM_take (x := bl y) (by rw [List.getElem?_map, HJ.out.2.2]; rfl) hY.out.1 HPY.out
       ·rw [bl_append, bl_append, bl_append, hY.out.2.1, HZ1.out.1]
        unfold ptT
        rw [List.flatMap_append]
        simp [bl]
       ·have h1 := hY.out.2.2.1
        have h2 := HZ1.out.2
        simp only [ByteArray.size_append]
        have h3 : (⟨#[32]⟩ : ByteArray).size = 1 := rfl
        have h4 : (⟨#[37]⟩ : ByteArray).size = 1 := rfl
        omega
       ·rw [List.length_append, hY.out.2.2.2]; rfl
       ·have := HP8.out.below B4.out
        rw [List.append_assoc] at this
        have e : en1 q (ys ++ [b]) = en1 q ys ++ [(pl q, some (opP .quo (pl b) (iP 100)))] := by unfold en1; rw [List.map_append]; rfl
        rw [e]
        exact this
      case measure => have := HJ.out.1; simp [Lib.intOf]; omega
    ·have hjdi : ¬ (j : Int) < (d : Int) := by omega
     have ejd : j = d := by omega
     have hys : (r.map bl).mapM pctF = some ys := by
      have := hY.out.1
      rwa [ejd, ← RL.out, show r.length = (r.map bl).length by rw [List.length_map], List.take_length] at this
     have hpt : ptF (bl x) = some (q, ys) := by
      unfold ptF
      rw [HWd.out]
      exact ptW_some HA2.out (by rw [List.length_map, RL.out]; have := HD.out; have := HA.out.2; omega) hys
     have HPT := Lib.hid (mapM_take (l := xs.map bl) (x := bl x) (by rw [List.getElem?_map, HX.out.1]; rfl) hP.out.1 hpt)
     have HYL := Lib.hid (show ys.length = d by rw [hY.out.2.2.2, ejd])
     have HT := Lib.hid (And.intro hY.out.2.1 (show t.size ≤ 200 by have := hY.out.2.2.1; have := HD.out; have := HA.out.2; omega))
     have HT2 := Lib.hid hT.out
     clear ejd hys hpt hY hT hO
     by_cases hm1 : m = 1
     ·have hmi : (m : Int) = 1 := by omega
      have hy0 : ys = [] := List.eq_nil_of_length_eq_zero (by have := HYL.out; have := HD.out; omega)
      subst hy0
      have EN : Hid (entP (ps ++ [(q, [])]) = entP ps ++ [(pl q, none)]) := Lib.hid (by rw [entP_snoc, if_pos rfl])
      have EL : Hid (1 ≤ [(pl q, (none : Option Int))].length ∧ [(pl q, (none : Option Int))].length ≤ 2) := Lib.hid ⟨by simp, by simp⟩
      rw [show en1 q [] = [] from rfl, List.append_nil] at HT2
      obtain ⟨v, hbx, vs, hov, hvr⟩ := HT2.out.2.1
      have kb := hbx.cell
      have HV3 := Lib.hid (And.intro hbx (And.intro hov (And.intro hvr (And.intro HT2.out.2.2.1 HT2.out.2.2.2))))
      clear hbx hov hvr HT2 hm1
      go_wp2_with (at_builtin; refine app_two rfl _ _ 144 148 rfl (.agg #[.float .f64 0, .float .f64 0, .bool false]) 3 24 Tryz.underlying144 (by kernel_rfl) rfl (by decide) w.heap.size _ _ _ rfl HV3.out.2.1 #[.float .f64 q, .float .f64 0, .bool false] rfl ?c1 rfl ?c2 ?c3 ?c4 ?_)
      case c1 => first | exact ⟨rfl, rfl, rfl⟩ | (intro u hu; simp at hu; rcases hu with rfl | rfl | rfl <;> rfl)
      case c2 => have h1 := hP.out.2.2.2.1; have h3 := HX.out.2; have h4 := NN.out; omega
      case c3 => have h1 := hP.out.2.2.2.1; have h3 := HX.out.2; have h4 := NN.out; omega
      case c4 => exact HV3.out.2.2.2.2.size
      intro v8 w8 hown hg
      obtain ⟨g8, c8, m8, rfl⟩ : ∃ g8 c8 m8, v8 = .slice (some ⟨g8, 0, none⟩) m8 c8 := by
       rcases hown.2 with ⟨-, h⟩ | ⟨g, cap, _, e, _⟩
       ·omega
       ·exact ⟨g, cap, _, e⟩
      have hb8 := HV3.out.1.grown hg (own_box HV3.out.2.1 HV3.out.1 (by decide))
      have k8 := hb8.cell
      have f8 := hb8.frozen
      have HPP := Lib.hid (PT.point (e := (pl q, none)) (o := q) (a := 0) (Nat.le_refl _) HV3.out.1 HV3.out.2.1 HV3.out.2.2.1 HV3.out.2.2.2.1 HV3.out.2.2.2.2 (RV.self UQ.out) (fun p hp => by cases hp) hown hg)
      clear hown hg hb8 HV3 kb
      go_wp2_with (at_builtin; refine app_two rfl _ _ 36 9 rfl (.string ⟨#[]⟩) 1 16 Tryz.underlying36 (by kernel_rfl) rfl (by decide) w.heap.size _ _ _ rfl HPP.out.2.2.1 #[.string t] rfl ?c1 ?c5 ?c2 ?c3 ?c4 ?_)
      case c1 => first | rfl | (intro u hu; simp at hu; subst hu; rfl)
      case c5 => first | rfl | (rw [show (w8.setCell ⟨w.heap.size, 0, none⟩ (.slice (some ⟨g8, 0, none⟩) m8 c8)).heap.size = w8.heap.size by simp [World.setCell]]; rfl)
      case c2 => have h1 := hP.out.2.2.2.2; have h2 := hP.out.2.1.1; have h3 := HX.out.2; have h4 := NN.out; omega
      case c3 => have h1 := hP.out.2.2.2.2; have h2 := hP.out.2.1.1; have h3 := HX.out.2; have h4 := NN.out; omega
      case c4 => exact HPP.out.2.2.2.size
      intro u9 w9 hown hg
      have HPN := Lib.hid (PT.text HPP.out (.string t) hown hg)
      clear hown hg
      go_wp2
      go_roundw
      case rel =>
       refine ⟨k + 1, ps ++ [(q, [])], ts ++ [.string t], HX.out.2, by go_num, Lib.hid ⟨HPT.out, hP.out.2.1.snoc HT.out.1 HT.out.2, ?_, ?_, ?_⟩, Lib.hid ?_⟩
       ·have h1 := hP.out.2.2.1; rw [EN.out, List.length_append]; have := EL.out; omega
       ·have h1 := hP.out.2.2.2.1; rw [EN.out, List.length_append]; have := EL.out; omega
       ·rw [List.length_append, hP.out.2.2.2.2]; rfl
       ·rw [EN.out]; exact HPN.out
      case measure => have := HX.out.2; simp [Lib.intOf]; omega
     ·have hmi : ¬ (m : Int) = 1 := by omega
      have hyn : ys ≠ [] := fun e => by have h1 := HYL.out; rw [e] at h1; simp at h1; have := HD.out; have := HA.out.2; omega
      have EN : Hid (entP (ps ++ [(q, ys)]) = entP ps ++ en1 q ys) := Lib.hid (by rw [entP_snoc, if_neg hyn])
      have EL : Hid (1 ≤ (en1 q ys).length ∧ (en1 q ys).length ≤ 2) := Lib.hid (by unfold en1; rw [List.length_map]; have := HYL.out; have := HD.out; have := HA.out.2; omega)
      have HPP := HT2
      clear HT2 hm1 hyn
      go_wp2_with (at_builtin; refine app_two rfl _ _ 36 9 rfl (.string ⟨#[]⟩) 1 16 Tryz.underlying36 (by kernel_rfl) rfl (by decide) w.heap.size _ _ _ rfl HPP.out.2.2.1 #[.string t] rfl ?c1 ?c5 ?c2 ?c3 ?c4 ?_)
      case c1 => first | rfl | (intro u hu; simp at hu; subst hu; rfl)
      case c2 => have h1 := hP.out.2.2.2.2; have h2 := hP.out.2.1.1; have h3 := HX.out.2; have h4 := NN.out; omega
      case c3 => have h1 := hP.out.2.2.2.2; have h2 := hP.out.2.1.1; have h3 := HX.out.2; have h4 := NN.out; omega
      case c4 => exact HPP.out.2.2.2.size
      intro u9 w9 hown hg
      have HPN := Lib.hid (PT.text HPP.out (.string t) hown hg)
      clear hown hg
      go_wp2
      go_roundw
      case rel =>
       refine ⟨k + 1, ps ++ [(q, ys)], ts ++ [.string t], HX.out.2, by go_num, Lib.hid ⟨HPT.out, hP.out.2.1.snoc HT.out.1 HT.out.2, ?_, ?_, ?_⟩, Lib.hid ?_⟩
       ·have h1 := hP.out.2.2.1; rw [EN.out, List.length_append]; have := EL.out; omega
       ·have h1 := hP.out.2.2.2.1; rw [EN.out, List.length_append]; have := EL.out; omega
       ·rw [List.length_append, hP.out.2.2.2.2]; rfl
       ·rw [EN.out]; exact HPN.out
      case measure => have := HX.out.2; simp [Lib.intOf]; omega
  ·have hki : ¬ (k : Int) < (n : Int) := by omega
   have hkn : k = n := by omega
   have hall : (xs.map bl).take k = xs.map bl := by rw [hkn, HN.out, show xs.length = (xs.map bl).length by rw [List.length_map], List.take_length]
   have hR4 : Hid (R = some (.pts ps)) := Lib.hid (by rw [hR2.out]; have := hP.out.1; rw [hall] at this; rw [this]; rfl)
   obtain ⟨ss, e1, e2, e3⟩ := hP.out.2.1.strs
   subst e1
   have hsn : ss.length = n := by have h1 := hP.out.2.1.1; rw [List.length_map, hP.out.2.2.2.2] at h1; omega
   have en2 : 2 ≤ (entP ps).length := by have := hP.out.2.2.1; have := NN.out; omega
   have en1000 : (entP ps).length ≤ 1000 := by have := hP.out.2.2.2.1; have := NN.out; omega
   obtain ⟨v, hbx, hov⟩ := hT.out.2.1
   obtain ⟨g, cc, rfl, hoe⟩ := hov.oe (by omega)
   have hu := hT.out.2.2.1
   rw [List.length_map] at hu
   obtain ⟨gs, cs, rfl, hgs, hgl, hcs, hcc⟩ := own_cells hu (by have := NN.out; omega)
   have kb := hbx.cell
   have H5 := Lib.hid (And.intro hbx (And.intro hoe (And.intro hu hT.out.2.2.2)))
   have hne : g ≠ w.heap.size := fun e => own_box (hoe.2.choose_spec.1) hbx (by decide) (by rw [e]; rfl)
   have hne2 : gs ≠ g := fun e => by
    rcases own_two hu hoe.2.choose_spec.1 (by decide) with h | h
    ·cases h
    ·exact h (by rw [e]; rfl)
   have C92 := Lib.hid (k92 w.heap.size g (entP ps).length cc (entP ps) wr hoe en2 en1000)
   have HNE := Lib.hid (And.intro hne (And.intro hne2 (And.intro hgl (And.intro hgs hcs))))
   have SSx := Lib.hid (And.intro e2 (And.intro e3 (And.intro hsn hcc)))
   have ENB := Lib.hid (And.intro en2 en1000)
   have jl := join_len ss e3
   obtain ⟨J, hJ⟩ : ∃ J : ByteArray, J = ⟨(Lib.join (ss.map (·.data.toList)) [44, 32]).toArray⟩ := ⟨_, rfl⟩
   have jsz : J.size ≤ 202 * ss.length := by rw [hJ]; exact jl
   have JB := Lib.hid (show bl J = joinN (ps.map ptT) by rw [hJ, ← e2, ← join_bl]; rfl)
   have f1 : ¬ 9223372036854775807 < 7 + J.size := by have := NN.out; omega
   have f2 : ¬ 9223372036854775807 < 7 + J.size + 1 := by have := NN.out; omega
   clear hkn hall e2 e3 en2 en1000 hbx hov hoe hu hgs hgl hcs hcc hne hne2 hT hk hR2
   go_upto_region 29 with (go_at_call 92; refine C92.out.mono ?_; rintro e w5 ⟨rfl, hoe5, hgb⟩; have H6 := Lib.hid (And.intro hoe5 hgb); clear hoe5 hgb)
   have hb5 := H5.out.1.grown H6.out.2 (fun e => HNE.out.1 (by injection e))
   have FN := Lib.hid (fn_pts (ps := ps) hb5 H6.out.1 ENB.out.1 ENB.out.2)
   have BW := Lib.hid (H6.out.2.to (B := w.heap.size) H5.out.2.1.block.1 H5.out.2.2.2 H5.out.2.2.2.size)
   have hcells : ∀ (j : Nat) x, ss[j]? = some x → w5.cell? ⟨gs, 0 + j, none⟩ = some (.string x) := fun j x hx => by
    rw [Nat.zero_add]
    exact World.grownBy.cell H6.out.2 (SSx.out.2.2.2 j (.string x) (by rw [List.getElem?_map, hx]; rfl)) (fun e => HNE.out.2.1 (by injection e))
   have C93 := Lib.hid (strings_Join gs 0 cs ss ⟨#[44, 32]⟩ w5 hcells (Nat.lt_of_lt_of_le HNE.out.2.2.1 H6.out.2.size) (by have := NN.out; have := SSx.out.2.2.1; omega) HNE.out.2.2.2.2 (by have h1 := jl; have := NN.out; have := SSx.out.2.2.1; have h2 : (Lib.join (ss.map (·.data.toList)) (⟨#[44, 32]⟩ : ByteArray).data.toList).length = (Lib.join (ss.map (·.data.toList)) [44, 32]).length := rfl; omega))
   rw [show (⟨#[44, 32]⟩ : ByteArray).data.toList = [44, 32] from rfl, ← hJ, SSx.out.2.2.1] at C93
   clear hcells hb5 H6 jl jsz hJ
   go_wp2_with (go_at_call 93; refine C93.out.mono ?_; rintro e w6 ⟨rfl, hb6⟩; have B6 := Lib.hid hb6; clear hb6)
   go_ret2
   rw [hR4.out]
   have BA := (Below.refl w6.heap.size w6).alloc (Nat.le_refl _)
   refine ⟨w6.heap.size, rfl, Nat.le_trans BW.out.size B6.out.size, ⟨by simp, ⟨#[108, 105, 110, 101, 97, 114, 40]⟩ ++ J ++ ⟨#[41]⟩, _, by simp, ?_, by simp, (FN.out.below (B := 0) B6.out).below (B := 0) (BA _)⟩, BW.out.trans ((B6.out.trans ((BA _).mono B6.out.size)).mono BW.out.size)⟩
   rw [bl_append, bl_append, JB.out]
   rfl
end Go.Proofs.YtlgencbldbpbdaaGreatDoor
namespace Go.Proofs.YtlgencbldbpbdaaGreatDoor
open Go.RowKit Fl
def befN (c : Nat) (l : List Nat) : List Nat := l.takeWhile (· != c)
def aftN (c : Nat) (l : List Nat) : List Nat := (l.dropWhile (· != c)).drop 1
def splN (c : Nat) : List Nat → List (List Nat)
 | [] => [[]]
 | x :: l => if x = c then [] :: splN c l else match splN c l with
    | [] => [[x]]
    | a :: r => (x :: a) :: r
theorem idx_one (c : UInt8) : ∀ l : List UInt8, Lib.index l [c] = if c ∈ l then ((l.takeWhile (· != c)).length : Int) else -1
 | [] => by simp [Lib.index]
 | b :: l => by
   by_cases h : b = c
   ·subst h
    rw [Lib.index]
    simp [List.isPrefixOf]
   ·have hp : ([c] : List UInt8).isPrefixOf (b :: l) = false := by simp [List.isPrefixOf, Ne.symm h]
    have hb : (b != c) = true := by simpa using h
    rw [Lib.index, hp, idx_one c l, List.takeWhile_cons, if_pos hb]
    by_cases hm : c ∈ l
    ·rw [if_pos hm, if_pos (List.mem_cons_of_mem _ hm), if_neg (by decide), if_neg (by simp)]
     simp
    ·rw [if_neg hm, if_neg (by decide), if_pos (by decide), if_neg (fun e => by rcases List.mem_cons.1 e with e | e; exact h e.symm; exact hm e)]
theorem take_while_len (c : UInt8) : ∀ l : List UInt8, l.take (l.takeWhile (· != c)).length = l.takeWhile (· != c) ∧ l.drop (l.takeWhile (· != c)).length = l.dropWhile (· != c)
 | [] => ⟨rfl, rfl⟩
 | b :: l => by
   rw [List.takeWhile_cons, List.dropWhile_cons]
   by_cases h : (b != c) = true
   ·rw [if_pos h, if_pos h, List.length_cons, List.take_succ_cons, List.drop_succ_cons]
    have ih := take_while_len c l
    exact ⟨by rw [ih.1], ih.2⟩
   ·rw [if_neg h, if_neg h]; exact ⟨rfl, rfl⟩
theorem cut_one (c : UInt8) (l : List UInt8) : Lib.cut l [c] = if c ∈ l then (l.takeWhile (· != c), (l.dropWhile (· != c)).drop 1, true) else (l, [], false) := by
 unfold Lib.cut
 rw [idx_one]
 by_cases hm : c ∈ l
 ·rw [if_pos hm, if_pos (by omega), if_pos hm]
  have h := take_while_len c l
  rw [Int.toNat_natCast, h.1, List.length_singleton, ← List.drop_drop, h.2]
 ·rw [if_neg hm, if_neg (by decide), if_neg hm]
theorem take_map (c : UInt8) : ∀ l : List UInt8, (l.takeWhile (· != c)).map UInt8.toNat = befN c.toNat (l.map UInt8.toNat)
 | [] => rfl
 | x :: l => by
   unfold befN
   rw [List.takeWhile_cons, List.map_cons, List.takeWhile_cons]
   by_cases h : x = c
   ·subst h
    rw [if_neg (by simp), if_neg (by simp)]
    rfl
   ·rw [if_pos (by simpa using h), if_pos (by simpa [UInt8.toNat_inj] using h), List.map_cons]
    rw [take_map c l]
    rfl
theorem dropn_map (c : UInt8) : ∀ l : List UInt8, (l.dropWhile (· != c)).map UInt8.toNat = (l.map UInt8.toNat).dropWhile (· != c.toNat)
 | [] => rfl
 | x :: l => by
   rw [List.dropWhile_cons, List.map_cons, List.dropWhile_cons]
   by_cases h : x = c
   ·subst h
    rw [if_neg (by simp), if_neg (by simp)]
    rfl
   ·rw [if_pos (by simpa using h), if_pos (by simpa [UInt8.toNat_inj] using h)]
    exact dropn_map c l
theorem mem_map8 (c : UInt8) (l : List UInt8) : c.toNat ∈ l.map UInt8.toNat ↔ c ∈ l := by
 constructor
 ·intro h
  obtain ⟨x, hx, e⟩ := List.mem_map.1 h
  rw [← UInt8.toNat_inj.1 e]; exact hx
 ·exact fun h => List.mem_map_of_mem h
theorem cut_bl (c : UInt8) (s : ByteArray) (h : c.toNat ∈ bl s) : ∃ y z : ByteArray, (⟨(Lib.cut s.data.toList [c]).1.toArray⟩ : ByteArray) = y ∧ (⟨(Lib.cut s.data.toList [c]).2.1.toArray⟩ : ByteArray) = z ∧ (Lib.cut s.data.toList [c]).2.2 = true ∧ bl y = befN c.toNat (bl s) ∧ bl z = aftN c.toNat (bl s) := by
 have hm : c ∈ s.data.toList := (mem_map8 c _).1 h
 refine ⟨_, _, rfl, rfl, by rw [cut_one, if_pos hm], ?_, ?_⟩
 ·rw [cut_one, if_pos hm, bl_mk]; exact take_map c _
 ·rw [cut_one, if_pos hm, bl_mk]
  unfold aftN
  show List.map UInt8.toNat (List.drop 1 _) = _
  rw [List.map_drop, dropn_map]
  rfl
theorem cut_bl_no (c : UInt8) (s : ByteArray) (h : ¬ c.toNat ∈ bl s) : (⟨(Lib.cut s.data.toList [c]).2.1.toArray⟩ : ByteArray) = ByteArray.empty ∧ (Lib.cut s.data.toList [c]).2.2 = false := by
 have hm : ¬ c ∈ s.data.toList := fun e => h ((mem_map8 c _).2 e)
 rw [cut_one, if_neg hm]
 exact ⟨rfl, rfl⟩
theorem splN_ne (c : Nat) : ∀ l, splN c l ≠ []
 | [] => by unfold splN; simp
 | x :: l => by
   unfold splN
   split
   ·simp
   ·split <;> simp
theorem splN_none (c : Nat) : ∀ {l : List Nat}, ¬ c ∈ l → splN c l = [l]
 | [], _ => rfl
 | x :: l, h => by
   rw [List.mem_cons, not_or] at h
   unfold splN
   rw [if_neg (Ne.symm h.1), splN_none c h.2]
theorem splN_cons (c : Nat) (r : List Nat) : ∀ {a : List Nat}, ¬ c ∈ a → splN c (a ++ c :: r) = a :: splN c r
 | [], _ => by rw [List.nil_append, splN, if_pos rfl]
 | x :: a, h => by
   rw [List.mem_cons, not_or] at h
   rw [List.cons_append, splN, if_neg (Ne.symm h.1), splN_cons c r h.2]
theorem splN_length (c : Nat) : ∀ l : List Nat, (splN c l).length ≤ l.length + 1
 | [] => by unfold splN; simp
 | x :: l => by
   have ih := splN_length c l
   unfold splN
   split
   ·simpa using ih
   ·split
    ·simp
    ·next a r h => rw [h] at ih; simp at ih ⊢; omega
theorem splN_len (c : Nat) : ∀ (l : List Nat) (x : List Nat), x ∈ splN c l → x.length ≤ l.length
 | [], x, h => by unfold splN at h; simp at h; rw [h]; simp
 | y :: l, x, h => by
   unfold splN at h
   split at h
   ·rcases List.mem_cons.1 h with rfl | h
    ·simp
    ·have := splN_len c l x h; simp; omega
   ·have hn := splN_ne c l
    split at h
    ·next e => exact absurd e hn
    ·next a r e =>
     rcases List.mem_cons.1 h with rfl | h
     ·have := splN_len c l a (by rw [e]; exact List.mem_cons_self ..); simp; omega
     ·have := splN_len c l x (by rw [e]; exact List.mem_cons_of_mem _ h); simp; omega
theorem while_split (c : UInt8) : ∀ {l : List UInt8}, c ∈ l → l = l.takeWhile (· != c) ++ c :: (l.dropWhile (· != c)).drop 1
 | b :: l, h => by
   rw [List.takeWhile_cons, List.dropWhile_cons]
   by_cases hb : b = c
   ·subst hb
    rw [if_neg (by simp), if_neg (by simp)]
    rfl
   ·rw [if_pos (by simpa using hb), if_pos (by simpa using hb), List.cons_append]
    have hm : c ∈ l := by
     rcases List.mem_cons.1 h with h | h
     ·exact absurd h.symm hb
     ·exact h
    rw [← while_split c hm]
theorem while_no (c : UInt8) : ∀ l : List UInt8, ¬ c ∈ l.takeWhile (· != c)
 | [] => by simp
 | b :: l => by
   rw [List.takeWhile_cons]
   by_cases hb : b = c
   ·subst hb; rw [if_neg (by simp)]; simp
   ·rw [if_pos (by simpa using hb), List.mem_cons, not_or]
    exact ⟨Ne.symm hb, while_no c l⟩
theorem splitK_one (c : UInt8) : ∀ (k : Nat) (l : List UInt8), Lib.count l [c] = k → (Lib.splitK [c] 0 k l).map (fun x => x.map UInt8.toNat) = splN c.toNat (l.map UInt8.toNat)
 | 0, l, h => by
   rw [Lib.count_one, List.count_eq_zero] at h
   rw [splN_none _ (fun e => h ((mem_map8 c l).1 e))]
   rfl
 | k + 1, l, h => by
   have hm : c ∈ l := by
    rw [Lib.count_one] at h
    exact List.count_pos_iff.1 (by omega)
   have hi := idx_one c l
   rw [if_pos hm] at hi
   have hs := while_split c hm
   obtain ⟨a, ha⟩ : ∃ a, a = l.takeWhile (· != c) := ⟨_, rfl⟩
   obtain ⟨r, hr⟩ : ∃ r, r = (l.dropWhile (· != c)).drop 1 := ⟨_, rfl⟩
   have hno := while_no c l
   rw [← ha] at hi hs hno
   rw [← hr] at hs
   have hc : Lib.count r [c] = k := by
    rw [Lib.count_one] at h ⊢
    rw [hs, List.count_append, List.count_eq_zero.2 hno, List.count_cons_self] at h
    omega
   have h1 := splitK_one c k r hc
   rw [Lib.splitK, if_neg (by rw [hi]; simp only [beq_iff_eq]; omega), hi, Int.toNat_natCast]
   rw [List.map_cons]
   have e1 : l.take (a.length + 0) = a := by rw [hs, Nat.add_zero, List.take_left]
   have e2 : l.drop (a.length + [c].length) = r := by rw [hs]; simp
   rw [e1, e2, h1, hs, List.map_append, List.map_cons, splN_cons]
   exact fun e => hno ((mem_map8 c a).1 e)
theorem split_bl (c : UInt8) (s : ByteArray) : ((Lib.splitB ⟨#[c]⟩ 0 (Lib.countB s ⟨#[c]⟩) s).map bl) = splN c.toNat (bl s) ∧ (Lib.splitB ⟨#[c]⟩ 0 (Lib.countB s ⟨#[c]⟩) s).length = Lib.countB s ⟨#[c]⟩ + 1 := by
 refine ⟨?_, Lib.splitB_all ⟨#[c]⟩ (show 1 ≤ (⟨#[c]⟩ : ByteArray).size from Nat.le_refl 1) 0 _ s rfl⟩
 have h := splitK_one c _ s.data.toList (show Lib.count s.data.toList [c] = Lib.countB s ⟨#[c]⟩ from rfl)
 have h2 := Lib.splitB_data ⟨#[c]⟩ 0 (Lib.countB s ⟨#[c]⟩) s
 rw [show (⟨#[c]⟩ : ByteArray).data.toList = [c] from rfl] at h2
 rw [← h2, List.map_map] at h
 exact h
theorem suffix_one (c : UInt8) (l : List UInt8) : Lib.hasSuffix l [c] = decide ((l.map UInt8.toNat).getLast? = some c.toNat) := by
 unfold Lib.hasSuffix
 rw [Bool.eq_iff_iff, List.isSuffixOf_iff_suffix, decide_eq_true_iff, List.getLast?_map]
 constructor
 ·rintro ⟨t, rfl⟩
  simp
 ·intro h
  rcases List.eq_nil_or_concat l with rfl | ⟨t, y, rfl⟩
  ·simp at h
  ·simp only [List.concat_eq_append, List.getLast?_append, List.getLast?_singleton, Option.some_or, Option.map_some] at h
   injection h with h
   have e := UInt8.toNat_inj.1 h
   subst e
   exact ⟨t, by simp⟩
def aEase : List Nat := [101, 97, 115, 101]
def aEaseIn : List Nat := [101, 97, 115, 101, 45, 105, 110]
def aEaseOut : List Nat := [101, 97, 115, 101, 45, 111, 117, 116]
def aEaseIO : List Nat := [101, 97, 115, 101, 45, 105, 110, 45, 111, 117, 116]
def aStepStart : List Nat := [115, 116, 101, 112, 45, 115, 116, 97, 114, 116]
def aStepEnd : List Nat := [115, 116, 101, 112, 45, 101, 110, 100]
def aCubic : List Nat := [99, 117, 98, 105, 99, 45, 98, 101, 122, 105, 101, 114]
def aStepsW : List Nat := [115, 116, 101, 112, 115]
def kwF (t : List Nat) : Option Ez :=
 if t = aLinear then some .line
 else if t = aEase then some (.curve 4598175219545276416 4591870180066957722 4598175219545276416 4607182418800017408)
 else if t = aEaseIn then some (.curve 4601237667291888353 0 4607182418800017408 4607182418800017408)
 else if t = aEaseOut then some (.curve 0 0 4603399395113026191 4607182418800017408)
 else if t = aEaseIO then some (.curve 4601237667291888353 0 4603399395113026191 4607182418800017408)
 else if t = aStepStart then some (.steps 1 1)
 else if t = aStepEnd then some (.steps 1 2)
 else none
def fnF (name : List Nat) (l : List (List Nat)) : Option Ez :=
 if name = aCubic then curveF l else if name = aStepsW then stepsF l else if name = aLinear then ptsF l else none
def argF (t : List Nat) : Option Ez :=
 if 40 ∈ t ∧ (aftN 40 t).getLast? = some 41 then fnF (befN 40 t) ((splN 44 (aftN 40 t).dropLast).map trimN) else none
def parseF (s : List Nat) : Option Ez :=
 if 2000 < s.length then none else match kwF (trimN s) with
 | some z => some z
 | none => argF (trimN s)
end Go.Proofs.YtlgencbldbpbdaaGreatDoor
namespace Go.Proofs.YtlgencbldbpbdaaGreatDoor
open Go.RowKit Fl
def PC (b : Nat) : Prop := (48 ≤ b ∧ b ≤ 57) ∨ b = 43 ∨ b = 45 ∨ b = 46 ∨ b = 101
def PL (l : List Nat) : Prop := ∀ b ∈ l, PC b
theorem PL.nil : PL [] := fun b h => by cases h
theorem PL.cons {x : Nat} {l : List Nat} (h : PC x) (hl : PL l) : PL (x :: l) := fun b hb => by
 rcases List.mem_cons.1 hb with rfl | hb
 ·exact h
 ·exact hl b hb
theorem PL.take {l : List Nat} (h : PL l) (n : Nat) : PL (l.take n) := fun b hb => h b (List.mem_of_mem_take hb)
theorem PL.drop {l : List Nat} (h : PL l) (n : Nat) : PL (l.drop n) := fun b hb => h b (List.mem_of_mem_drop hb)
theorem PC.no {b : Nat} (h : PC b) : b ≠ 32 ∧ b ≠ 44 ∧ b ≠ 40 ∧ b ≠ 41 ∧ b ≠ 37 := by unfold PC at h; omega
def FW (x : Nat) : Prop := U x ∧ rg x < INF
theorem numE_FW {l : List Nat} {x : Nat} (h : numE l = some x) : FW x := by
 unfold numE at h
 split at h
 ·next c => injection h with h; subst h; exact ⟨(pW_U l).1, c.2.2⟩
 ·cases h
theorem dropB_id {l : List Nat} (h : l.head? ≠ some 32) : l.dropWhile (· == 32) = l := by
 cases l with
 | nil => rfl
 | cons x l => rw [List.dropWhile_cons, if_neg (by simpa using h)]
theorem trimN_id {l : List Nat} (h : l.head? ≠ some 32) (h2 : l.getLast? ≠ some 32) : trimN l = l := by
 unfold trimN
 rw [dropB_id (l := l.reverse) (by rw [List.head?_reverse]; exact h2), List.reverse_reverse, dropB_id h]
def TB (l : List Nat) : Prop := l ≠ [] ∧ l.head? ≠ some 32 ∧ l.getLast? ≠ some 32
theorem TB.id {l : List Nat} (h : TB l) : trimN l = l := trimN_id h.2.1 h.2.2
theorem TB.of {l : List Nat} (h0 : l ≠ []) (h : ¬ 32 ∈ l) : TB l :=
 ⟨h0, fun e => h (List.mem_of_mem_head? (by rw [e]; rfl)), fun e => h (List.mem_of_getLast? e)⟩
theorem befN_app {a r : List Nat} (c : Nat) (h : ¬ c ∈ a) : befN c (a ++ c :: r) = a ∧ aftN c (a ++ c :: r) = r := by
 induction a with
 | nil =>
   unfold befN aftN
   rw [List.nil_append, List.takeWhile_cons, List.dropWhile_cons, if_neg (by simp), if_neg (by simp)]
   exact ⟨rfl, rfl⟩
 | cons x a ih =>
   rw [List.mem_cons, not_or] at h
   obtain ⟨h1, h2⟩ := ih h.2
   unfold befN at h1
   unfold aftN at h2
   unfold befN aftN
   have hx : (x != c) = true := by simpa using Ne.symm h.1
   rw [List.cons_append, List.takeWhile_cons, List.dropWhile_cons, if_pos hx, if_pos hx, h1, h2]
   exact ⟨rfl, rfl⟩
theorem fnF_c (l : List (List Nat)) : fnF aCubic l = curveF l := by unfold fnF; rw [if_pos rfl]
theorem fnF_s (l : List (List Nat)) : fnF aStepsW l = stepsF l := by unfold fnF; rw [if_neg (by decide), if_pos rfl]
theorem fnF_l (l : List (List Nat)) : fnF aLinear l = ptsF l := by unfold fnF; rw [if_neg (by decide), if_neg (by decide), if_pos rfl]
end Go.Proofs.YtlgencbldbpbdaaGreatDoor
namespace Go.Proofs.YtlgencbldbpbdaaGreatDoor
open Go.RowKit Fl
theorem jump_le (l : List Nat) : jumpF l ≤ 4 := by
 unfold jumpF
 repeat' split
 all_goals decide
theorem cTrimD (s : ByteArray) (w : World) (hs : s.size ≤ 2000) : Calls Tryz.prog 76 #[.string s, .string ⟨#[48, 49, 50, 51, 52, 53, 54, 55, 56, 57]⟩] w fun e w' => (∃ z : ByteArray, e = .returned (.string z) ∧ (if allD (bl s) = true then z = ⟨#[]⟩ else 0 < z.size)) ∧ Below w.heap.size w w' := by
 refine (Any.strings_Trim_laid lays160 (by kernel_rfl) s ⟨#[48, 49, 50, 51, 52, 53, 54, 55, 56, 57]⟩ w (by omega) (by decide) (ascii_of_all (by decide))).mono ?_
 rintro e w' ⟨rfl, hb⟩
 refine ⟨⟨_, rfl, ?_⟩, hb⟩
 have h := trimS_nil s.data.toList
 split
 ·rename_i c
  rw [show (⟨#[48, 49, 50, 51, 52, 53, 54, 55, 56, 57]⟩ : ByteArray).data.toList = ds10 from rfl, h.2 c]
 ·rename_i c
  show 0 < (Lib.trimS s.data.toList ds10).toArray.size
  rw [List.size_toArray]
  exact List.length_pos_iff.2 fun e => c (h.1 e)
theorem cAtoi (s : ByteArray) (w : World) (hs : s.size ≤ 18) (h0 : bl s ≠ []) (h : allD (bl s) = true) : Calls Tryz.prog 88 #[.string s] w fun e w' => e = .returned (.tuple #[.int .i64 (dval (bl s) : Nat), .nilIface]) ∧ Below w.heap.size w w' := by
 refine (strconv_Atoi s (dval (bl s) : Nat) hs (atoi_dval _ (fun e => h0 (by unfold bl; rw [e]; rfl)) h) w).mono ?_
 rintro e w' ⟨rfl, t, rfl⟩
 exact ⟨rfl, Lib.bytesWorld_below w 5 t⟩
theorem cAtoiErr (s : ByteArray) (w : World) (h0 : bl s = []) (he : EW w) : Calls Tryz.prog 88 #[.string s] w fun e w' => (∃ t N, e = .returned (.tuple #[.int .i64 0, .iface t (.pointer (some ⟨N, 0, none⟩))])) ∧ Below w.heap.size w w' := by
 obtain ⟨-, -, ⟨ev, h3, h4⟩, -⟩ := he
 have e0 : s.data.toList = [] := by unfold bl at h0; simpa using h0
 refine (Any.strconv_Atoi_err laysC172 s (by rw [← bl_len, h0]; decide) (by rw [e0]; rfl) ev w h3 h4).mono ?_
 rintro e w' ⟨n, rfl, -, -, hb⟩
 exact ⟨⟨_, n, rfl⟩, hb⟩
set_option maxRecDepth 100000 in
set_option maxHeartbeats 4000000 in
theorem k45_1 (A : Nat) (x0 : ByteArray) (c : Nat) (w : World) (hw : LS w A [x0]) (he : EW w) (hs : x0.size ≤ 2000) :
  Calls Tryz.prog 45 #[.slice (some ⟨A, 0, none⟩) 1 c] w fun e w' => ParseR w (chkF (bl x0) 2) e w' := by
 have HW := Lib.hid (And.intro hw he)
 have c0 := hw.2 0 x0 rfl
 have BD := Lib.hid (fun (w1 : World) => k36 w1)
 have TR := Lib.hid (fun (w1 : World) => cTrimD x0 w1 hs)
 obtain ⟨R, hR0⟩ : ∃ R, R = chkF (bl x0) 2 := ⟨_, rfl⟩
 rw [← hR0]
 unfold chkF at hR0
 have hR := Lib.hid hR0
 clear hw he hs hR0
 by_cases c9 : 9 < (bl x0).length
 ·have c9i : (9 : Int) < (x0.size : Int) := by rw [bl_len] at c9; omega
  have E9 := Lib.hid c9
  clear TR c9
  go_enter Tryz.func45, Tryz.ntmps45
  go_wp2_with (go_at_call 36; refine (BD.out _).mono ?_; rintro e w9 ⟨N9, rfl, hb9⟩; have B9 := Lib.hid hb9; clear hb9)
  go_ret2
  have e1 : R = none := by rw [hR.out, if_pos (.inr (.inl E9.out))]
  rw [e1]
  exact BadR.mono ⟨N9, rfl, B9.out⟩ (Below.refl _ _)
 have c9i : ¬ (9 : Int) < (x0.size : Int) := by rw [bl_len] at c9; omega
 have c9n : x0.size ≤ 9 := by omega
 by_cases cd : allD (bl x0) = true
 ·have TR2 : Hid (∀ w1 : World, Calls Tryz.prog 76 #[.string x0, .string ⟨#[48, 49, 50, 51, 52, 53, 54, 55, 56, 57]⟩] w1 fun e w' => e = .returned (.string ⟨#[]⟩) ∧ Below w1.heap.size w1 w') := Lib.hid (fun w1 => (TR.out w1).mono fun e w' ⟨⟨z, h1, h2⟩, hb⟩ => ⟨by rw [h1]; rw [if_pos cd] at h2; rw [h2], hb⟩)
  by_cases cn : bl x0 = []
  ·have AT := Lib.hid (fun (w1 : World) (h : EW w1) => cAtoiErr x0 w1 cn h)
   have EN := Lib.hid cn
   clear TR cn cd c9 c9n
   go_enter Tryz.func45, Tryz.ntmps45
   go_wp2_with (first
   | (go_at_call 76; refine (TR2.out _).mono ?_; rintro e w2 ⟨rfl, hb2⟩; have B2 := Lib.hid hb2; have c2 := ((HW.out.1.below hb2).2 0 x0 rfl); clear hb2)
   | (go_at_call 88; refine (AT.out _ (HW.out.2.below B2.out)).mono ?_; rintro e w3 ⟨⟨t3, N3, rfl⟩, hb3⟩; have B3 := Lib.hid (B2.out.trans (hb3.mono B2.out.size)); clear hb3)
   | (go_at_call 36; refine (BD.out _).mono ?_; rintro e w9 ⟨N9, rfl, hb9⟩; have B9 := Lib.hid hb9; clear hb9))
   go_ret2
   have e1 : R = none := by rw [hR.out, if_pos (.inr (.inr (.inr EN.out)))]
   rw [e1]
   exact BadR.mono ⟨N9, rfl, B9.out⟩ B3.out
  ·have AT := Lib.hid (fun (w1 : World) => cAtoi x0 w1 (by omega) cn cd)
   have NB : ¬ (2 = 0 ∨ 9 < (bl x0).length ∨ allD (bl x0) = false ∨ bl x0 = []) := by
    rintro (h | h | h | h)
    ·cases h
    ·exact c9 h
    ·rw [cd] at h; cases h
    ·exact cn h
   have hR2 := hR.out
   rw [if_neg NB] at hR2
   have D9 := dval_lt9 cd (by omega)
   obtain ⟨m, hm⟩ : ∃ m, m = dval (bl x0) := ⟨_, rfl⟩
   rw [← hm] at AT hR2 D9
   replace hR2 := Lib.hid hR2
   clear NB TR cn cd c9 c9n hR hm
   by_cases m1 : m < 1
   ·have m1i : (m : Int) < 1 := by omega
    have E1 := Lib.hid m1
    clear m1 D9
    go_enter Tryz.func45, Tryz.ntmps45
    go_wp2_with (first
   | (go_at_call 76; refine (TR2.out _).mono ?_; rintro e w2 ⟨rfl, hb2⟩; have B2 := Lib.hid hb2; have c2 := ((HW.out.1.below hb2).2 0 x0 rfl); clear hb2)
   | (go_at_call 88; refine (AT.out _).mono ?_; rintro e w3 ⟨rfl, hb3⟩; have B3 := Lib.hid (B2.out.trans (hb3.mono B2.out.size)); clear hb3)
   | (go_at_call 36; refine (BD.out _).mono ?_; rintro e w9 ⟨N9, rfl, hb9⟩; have B9 := Lib.hid hb9; clear hb9))
    go_ret2
    have e1 : R = none := by rw [hR2.out, if_pos (.inl E1.out)]
    rw [e1]
    exact BadR.mono ⟨N9, rfl, B9.out⟩ B3.out
   have m1i : ¬ (m : Int) < 1 := by omega
   ·have EO : Hid (¬ (m < 1 ∨ (2 = 3 ∧ m < 2))) := Lib.hid (by omega)
    have ST := Lib.hid (fun (w1 : World) (h : PowTab w1) => k40 m 2 w1 (by omega) D9 (by decide) (by decide) h)
    clear m1 D9
    go_enter Tryz.func45, Tryz.ntmps45
    go_wp2_with (first
   | (go_at_call 76; refine (TR2.out _).mono ?_; rintro e w2 ⟨rfl, hb2⟩; have B2 := Lib.hid hb2; have c2 := ((HW.out.1.below hb2).2 0 x0 rfl); clear hb2)
   | (go_at_call 88; refine (AT.out _).mono ?_; rintro e w3 ⟨rfl, hb3⟩; have B3 := Lib.hid (B2.out.trans (hb3.mono B2.out.size)); clear hb3)
   | (go_at_call 40; refine (ST.out _ (HW.out.2.below B3.out).1).mono ?_; rintro e w4 ⟨b4, rfl, hb4⟩; have B4 := Lib.hid hb4; clear hb4))
    go_ret2
    have e1 : R = some (.steps m 2) := by rw [hR2.out, if_neg EO.out]
    rw [e1]
    exact OkR.mono ⟨b4, rfl, B4.out⟩ B3.out
 ·have TR2 : Hid (∀ w1 : World, Calls Tryz.prog 76 #[.string x0, .string ⟨#[48, 49, 50, 51, 52, 53, 54, 55, 56, 57]⟩] w1 fun e w' => (∃ z : ByteArray, e = .returned (.string z) ∧ 0 < z.size) ∧ Below w1.heap.size w1 w') := Lib.hid (fun w1 => (TR.out w1).mono fun e w' ⟨⟨z, h1, h2⟩, hb⟩ => ⟨⟨z, h1, by rwa [if_neg cd] at h2⟩, hb⟩)
  have ED : Hid (allD (bl x0) = false) := Lib.hid (by simpa using cd)
  clear TR cd c9 c9n
  go_enter Tryz.func45, Tryz.ntmps45
  go_wp2_with (first
   | (go_at_call 76; refine (TR2.out _).mono ?_; rintro e w2 ⟨⟨z, rfl, hz⟩, hb2⟩; have B2 := Lib.hid hb2; obtain ⟨f1, f2⟩ := full_bl hz; clear hb2 hz)
   | (go_at_call 36; refine (BD.out _).mono ?_; rintro e w9 ⟨N9, rfl, hb9⟩; have B9 := Lib.hid hb9; clear hb9))
  go_ret2
  have e1 : R = none := by rw [hR.out, if_pos (.inr (.inr (.inl ED.out)))]
  rw [e1]
  exact BadR.mono ⟨N9, rfl, B9.out⟩ B2.out
set_option maxRecDepth 100000 in
set_option maxHeartbeats 4000000 in
theorem k45_2 (A : Nat) (x0 : ByteArray) (x1 : ByteArray) (c : Nat) (w : World) (hw : LS w A [x0, x1]) (he : EW w) (hs : x0.size ≤ 2000) :
  Calls Tryz.prog 45 #[.slice (some ⟨A, 0, none⟩) 2 c] w fun e w' => ParseR w (chkF (bl x0) (jumpF (bl x1))) e w' := by
 have HW := Lib.hid (And.intro hw he)
 have c0 := hw.2 0 x0 rfl
 have BD := Lib.hid (fun (w1 : World) => k36 w1)
 have TR := Lib.hid (fun (w1 : World) => cTrimD x0 w1 hs)
 obtain ⟨R, hR0⟩ : ∃ R, R = chkF (bl x0) (jumpF (bl x1)) := ⟨_, rfl⟩
 rw [← hR0]
 unfold chkF at hR0
 have hR := Lib.hid hR0
 have c1 := hw.2 1 x1 rfl
 have J87 := Lib.hid (fun (w1 : World) => k87 x1 w1)
 obtain ⟨j, hj⟩ : ∃ j, j = jumpF (bl x1) := ⟨_, rfl⟩
 have j4 : j ≤ 4 := by rw [hj]; exact jump_le _
 rw [← hj] at hR J87 hR0
 clear hj
 clear hw he hs hR0
 by_cases j0 : j = 0
 ·have E0 := Lib.hid j0
  have j0i : (((j : Nat) : Int) == 0) = true := beq_iff_eq.2 (by omega)
  clear TR c0
  go_enter Tryz.func45, Tryz.ntmps45
  go_wp2_with (first
   | (go_at_call 87; refine (J87.out _).mono ?_; rintro e w8 ⟨rfl, rfl⟩)
   | (go_at_call 36; refine (BD.out _).mono ?_; rintro e w9 ⟨N9, rfl, hb9⟩; have B9 := Lib.hid hb9; clear hb9))
  go_ret2
  have e1 : R = none := by rw [hR.out, if_pos (.inl E0.out)]
  rw [e1]
  exact BadR.mono ⟨N9, rfl, B9.out⟩ (Below.refl _ _)
 have j0i : (((j : Nat) : Int) == 0) = false := beq_eq_false_iff_ne.2 (by omega)
 by_cases c9 : 9 < (bl x0).length
 ·have c9i : (9 : Int) < (x0.size : Int) := by rw [bl_len] at c9; omega
  have E9 := Lib.hid c9
  clear TR c9
  go_enter Tryz.func45, Tryz.ntmps45
  go_wp2_with (first
   | (go_at_call 87; refine (J87.out _).mono ?_; rintro e w8 ⟨rfl, rfl⟩)
   | (go_at_call 36; refine (BD.out _).mono ?_; rintro e w9 ⟨N9, rfl, hb9⟩; have B9 := Lib.hid hb9; clear hb9))
  go_ret2
  have e1 : R = none := by rw [hR.out, if_pos (.inr (.inl E9.out))]
  rw [e1]
  exact BadR.mono ⟨N9, rfl, B9.out⟩ (Below.refl _ _)
 have c9i : ¬ (9 : Int) < (x0.size : Int) := by rw [bl_len] at c9; omega
 have c9n : x0.size ≤ 9 := by omega
 by_cases cd : allD (bl x0) = true
 ·have TR2 : Hid (∀ w1 : World, Calls Tryz.prog 76 #[.string x0, .string ⟨#[48, 49, 50, 51, 52, 53, 54, 55, 56, 57]⟩] w1 fun e w' => e = .returned (.string ⟨#[]⟩) ∧ Below w1.heap.size w1 w') := Lib.hid (fun w1 => (TR.out w1).mono fun e w' ⟨⟨z, h1, h2⟩, hb⟩ => ⟨by rw [h1]; rw [if_pos cd] at h2; rw [h2], hb⟩)
  by_cases cn : bl x0 = []
  ·have AT := Lib.hid (fun (w1 : World) (h : EW w1) => cAtoiErr x0 w1 cn h)
   have EN := Lib.hid cn
   clear TR cn cd c9 c9n
   go_enter Tryz.func45, Tryz.ntmps45
   go_wp2_with (first
   | (go_at_call 87; refine (J87.out _).mono ?_; rintro e w8 ⟨rfl, rfl⟩)
   | (go_at_call 76; refine (TR2.out _).mono ?_; rintro e w2 ⟨rfl, hb2⟩; have B2 := Lib.hid hb2; have c2 := ((HW.out.1.below hb2).2 0 x0 rfl); clear hb2)
   | (go_at_call 88; refine (AT.out _ (HW.out.2.below B2.out)).mono ?_; rintro e w3 ⟨⟨t3, N3, rfl⟩, hb3⟩; have B3 := Lib.hid (B2.out.trans (hb3.mono B2.out.size)); clear hb3)
   | (go_at_call 36; refine (BD.out _).mono ?_; rintro e w9 ⟨N9, rfl, hb9⟩; have B9 := Lib.hid hb9; clear hb9))
   go_ret2
   have e1 : R = none := by rw [hR.out, if_pos (.inr (.inr (.inr EN.out)))]
   rw [e1]
   exact BadR.mono ⟨N9, rfl, B9.out⟩ B3.out
  ·have AT := Lib.hid (fun (w1 : World) => cAtoi x0 w1 (by omega) cn cd)
   have NB : ¬ (j = 0 ∨ 9 < (bl x0).length ∨ allD (bl x0) = false ∨ bl x0 = []) := by
    rintro (h | h | h | h)
    ·exact j0 h
    ·exact c9 h
    ·rw [cd] at h; cases h
    ·exact cn h
   have hR2 := hR.out
   rw [if_neg NB] at hR2
   have D9 := dval_lt9 cd (by omega)
   obtain ⟨m, hm⟩ : ∃ m, m = dval (bl x0) := ⟨_, rfl⟩
   rw [← hm] at AT hR2 D9
   replace hR2 := Lib.hid hR2
   clear NB TR cn cd c9 c9n hR hm
   by_cases m1 : m < 1
   ·have m1i : (m : Int) < 1 := by omega
    have E1 := Lib.hid m1
    clear m1 D9
    go_enter Tryz.func45, Tryz.ntmps45
    go_wp2_with (first
   | (go_at_call 87; refine (J87.out _).mono ?_; rintro e w8 ⟨rfl, rfl⟩)
   | (go_at_call 76; refine (TR2.out _).mono ?_; rintro e w2 ⟨rfl, hb2⟩; have B2 := Lib.hid hb2; have c2 := ((HW.out.1.below hb2).2 0 x0 rfl); clear hb2)
   | (go_at_call 88; refine (AT.out _).mono ?_; rintro e w3 ⟨rfl, hb3⟩; have B3 := Lib.hid (B2.out.trans (hb3.mono B2.out.size)); clear hb3)
   | (go_at_call 36; refine (BD.out _).mono ?_; rintro e w9 ⟨N9, rfl, hb9⟩; have B9 := Lib.hid hb9; clear hb9))
    go_ret2
    have e1 : R = none := by rw [hR2.out, if_pos (.inl E1.out)]
    rw [e1]
    exact BadR.mono ⟨N9, rfl, B9.out⟩ B3.out
   have m1i : ¬ (m : Int) < 1 := by omega
   ·by_cases j3 : j = 3
    ·subst j3
     clear j0i
     by_cases m2 : m < 2
     ·have m2i : (m : Int) < 2 := by omega
      have E1 := Lib.hid m2
      clear m1 D9 m2
      go_enter Tryz.func45, Tryz.ntmps45
      go_wp2_with (first
   | (go_at_call 87; refine (J87.out _).mono ?_; rintro e w8 ⟨rfl, rfl⟩)
   | (go_at_call 76; refine (TR2.out _).mono ?_; rintro e w2 ⟨rfl, hb2⟩; have B2 := Lib.hid hb2; have c2 := ((HW.out.1.below hb2).2 0 x0 rfl); clear hb2)
   | (go_at_call 88; refine (AT.out _).mono ?_; rintro e w3 ⟨rfl, hb3⟩; have B3 := Lib.hid (B2.out.trans (hb3.mono B2.out.size)); clear hb3)
   | (go_at_call 36; refine (BD.out _).mono ?_; rintro e w9 ⟨N9, rfl, hb9⟩; have B9 := Lib.hid hb9; clear hb9))
      go_ret2
      have e1 : R = none := by rw [hR2.out, if_pos (.inr (by simp; exact E1.out))]
      rw [e1]
      exact BadR.mono ⟨N9, rfl, B9.out⟩ B3.out
     ·have m2i : ¬ (m : Int) < 2 := by omega
      have EO : Hid (¬ (m < 1 ∨ (3 = 3 ∧ m < 2))) := Lib.hid (by omega)
      have ST := Lib.hid (fun (w1 : World) (h : PowTab w1) => k40 m 3 w1 (by omega) D9 (by omega) (by omega) h)
      clear m1 D9 m2
      go_enter Tryz.func45, Tryz.ntmps45
      go_wp2_with (first
   | (go_at_call 87; refine (J87.out _).mono ?_; rintro e w8 ⟨rfl, rfl⟩)
   | (go_at_call 76; refine (TR2.out _).mono ?_; rintro e w2 ⟨rfl, hb2⟩; have B2 := Lib.hid hb2; have c2 := ((HW.out.1.below hb2).2 0 x0 rfl); clear hb2)
   | (go_at_call 88; refine (AT.out _).mono ?_; rintro e w3 ⟨rfl, hb3⟩; have B3 := Lib.hid (B2.out.trans (hb3.mono B2.out.size)); clear hb3)
   | (go_at_call 40; refine (ST.out _ (HW.out.2.below B3.out).1).mono ?_; rintro e w4 ⟨b4, rfl, hb4⟩; have B4 := Lib.hid hb4; clear hb4))
      go_ret2
      have e1 : R = some (.steps m 3) := by rw [hR2.out, if_neg EO.out]
      rw [e1]
      exact OkR.mono ⟨b4, rfl, B4.out⟩ B3.out
    ·have j3i : (((j : Nat) : Int) == 3) = false := beq_eq_false_iff_ne.2 (by omega)
     have EO : Hid (¬ (m < 1 ∨ (j = 3 ∧ m < 2))) := Lib.hid (by omega)
     have ST := Lib.hid (fun (w1 : World) (h : PowTab w1) => k40 m j w1 (by omega) D9 (by omega) (by omega) h)
     clear m1 D9 j3
     go_enter Tryz.func45, Tryz.ntmps45
     go_wp2_with (first
   | (go_at_call 87; refine (J87.out _).mono ?_; rintro e w8 ⟨rfl, rfl⟩)
   | (go_at_call 76; refine (TR2.out _).mono ?_; rintro e w2 ⟨rfl, hb2⟩; have B2 := Lib.hid hb2; have c2 := ((HW.out.1.below hb2).2 0 x0 rfl); clear hb2)
   | (go_at_call 88; refine (AT.out _).mono ?_; rintro e w3 ⟨rfl, hb3⟩; have B3 := Lib.hid (B2.out.trans (hb3.mono B2.out.size)); clear hb3)
   | (go_at_call 40; refine (ST.out _ (HW.out.2.below B3.out).1).mono ?_; rintro e w4 ⟨b4, rfl, hb4⟩; have B4 := Lib.hid hb4; clear hb4))
     go_ret2
     have e1 : R = some (.steps m j) := by rw [hR2.out, if_neg EO.out]
     rw [e1]
     exact OkR.mono ⟨b4, rfl, B4.out⟩ B3.out
 ·have TR2 : Hid (∀ w1 : World, Calls Tryz.prog 76 #[.string x0, .string ⟨#[48, 49, 50, 51, 52, 53, 54, 55, 56, 57]⟩] w1 fun e w' => (∃ z : ByteArray, e = .returned (.string z) ∧ 0 < z.size) ∧ Below w1.heap.size w1 w') := Lib.hid (fun w1 => (TR.out w1).mono fun e w' ⟨⟨z, h1, h2⟩, hb⟩ => ⟨⟨z, h1, by rwa [if_neg cd] at h2⟩, hb⟩)
  have ED : Hid (allD (bl x0) = false) := Lib.hid (by simpa using cd)
  clear TR cd c9 c9n
  go_enter Tryz.func45, Tryz.ntmps45
  go_wp2_with (first
   | (go_at_call 87; refine (J87.out _).mono ?_; rintro e w8 ⟨rfl, rfl⟩)
   | (go_at_call 76; refine (TR2.out _).mono ?_; rintro e w2 ⟨⟨z, rfl, hz⟩, hb2⟩; have B2 := Lib.hid hb2; obtain ⟨f1, f2⟩ := full_bl hz; clear hb2 hz)
   | (go_at_call 36; refine (BD.out _).mono ?_; rintro e w9 ⟨N9, rfl, hb9⟩; have B9 := Lib.hid hb9; clear hb9))
  go_ret2
  have e1 : R = none := by rw [hR.out, if_pos (.inr (.inr (.inl ED.out)))]
  rw [e1]
  exact BadR.mono ⟨N9, rfl, B9.out⟩ B2.out
theorem k45 (A : Nat) (x0 : ByteArray) (xs : List ByteArray) (c : Nat) (w : World) (hw : LS w A (x0 :: xs)) (he : EW w) (hs : ∀ x ∈ x0 :: xs, x.size ≤ 2000) :
  Calls Tryz.prog 45 #[.slice (some ⟨A, 0, none⟩) (xs.length + 1) c] w fun e w' => ParseR w (stepsF ((x0 :: xs).map bl)) e w' := by
 have h0 := hs x0 (List.mem_cons_self ..)
 match xs, hw with
 | [], hw => exact k45_1 A x0 c w hw he h0
 | [x1], hw => exact k45_2 A x0 x1 c w hw he h0
 | x1 :: x2 :: r, hw =>
   have BD := Lib.hid (fun (w1 : World) => k36 w1)
   have J87 := Lib.hid (fun (w1 : World) => k87 x1 w1)
   have c1 := hw.2 1 x1 rfl
   obtain ⟨n, hn⟩ : ∃ n, n = (x1 :: x2 :: r).length + 1 := ⟨_, rfl⟩
   have n3 : (2 : Int) < (n : Int) := by rw [hn]; simp only [List.length_cons]; omega
   have n2 : ¬ (n : Int) = 2 := by omega
   rw [← hn]
   show Calls _ _ _ _ fun e w' => BadR w e w'
   clear hn hw he hs h0
   go_enter Tryz.func45, Tryz.ntmps45
   go_wp2_with (go_at_call 36; refine (BD.out _).mono ?_; rintro e w9 ⟨N9, rfl, hb9⟩; have B9 := Lib.hid hb9; clear hb9)
   go_ret2
   exact ⟨N9, rfl, B9.out⟩
end Go.Proofs.YtlgencbldbpbdaaGreatDoor
namespace Go.Proofs.YtlgencbldbpbdaaGreatDoor
open Go.RowKit Fl
def OP (p : Nat × List Nat) : Prop := FW p.1 ∧ p.2.length ≤ 2 ∧ ∀ q ∈ p.2, FW q
def OKZ : Ez → Prop
 | .line => True
 | .curve a b c d => FW a ∧ FW b ∧ FW c ∧ FW d ∧ inU (pl a) = true ∧ inU (pl c) = true
 | .steps n j => 1 ≤ n ∧ n ≤ 999999999 ∧ 1 ≤ j ∧ j ≤ 4 ∧ (j = 3 → 2 ≤ n)
 | .pts l => 2 ≤ l.length ∧ l.length ≤ 100 ∧ ∀ p ∈ l, OP p
theorem mapM_spec {α β : Type} {f : α → Option β} : ∀ {l : List α} {ys : List β}, l.mapM f = some ys → ys.length = l.length ∧ ∀ y ∈ ys, ∃ x, f x = some y
 | [], ys, h => by
   injection h with h
   subst h
   exact ⟨rfl, fun y hy => by cases hy⟩
 | x :: l, ys, h => by
   rw [List.mapM_cons] at h
   cases hx : f x with
   | none => rw [hx] at h; cases h
   | some y =>
     rw [hx] at h
     cases hl : l.mapM f with
     | none => rw [hl] at h; cases h
     | some zs =>
       rw [hl] at h
       injection h with h
       subst h
       obtain ⟨h1, h2⟩ := mapM_spec hl
       exact ⟨by rw [List.length_cons, List.length_cons, h1], fun z hz => by
        rcases List.mem_cons.1 hz with rfl | hz
        ·exact ⟨x, hx⟩
        ·exact h2 z hz⟩
theorem pctF_FW {l : List Nat} {q : Nat} (h : pctF l = some q) : FW q := by
 unfold pctF at h
 split at h
 ·exact numE_FW h
 ·cases h
theorem ptF_OP {l : List Nat} {p : Nat × List Nat} (h : ptF l = some p) : OP p := by
 unfold ptF at h
 match hw : wordsN l with
 | [] => rw [hw] at h; cases h
 | [a] =>
   rw [hw] at h
   obtain ⟨x, hx, rfl⟩ := Option.map_eq_some_iff.1 h
   exact ⟨numE_FW hx, by simp, fun q hq => by cases hq⟩
 | [a, b] =>
   rw [hw] at h
   obtain ⟨x, hx, h⟩ := Option.bind_eq_some_iff.1 h
   obtain ⟨y, hy, rfl⟩ := Option.map_eq_some_iff.1 h
   exact ⟨numE_FW hx, by simp, fun q hq => by rw [List.mem_singleton.1 hq]; exact pctF_FW hy⟩
 | [a, b, c] =>
   rw [hw] at h
   obtain ⟨x, hx, h⟩ := Option.bind_eq_some_iff.1 h
   obtain ⟨y, hy, h⟩ := Option.bind_eq_some_iff.1 h
   obtain ⟨z, hz, rfl⟩ := Option.map_eq_some_iff.1 h
   refine ⟨numE_FW hx, by simp, fun q hq => ?_⟩
   rcases List.mem_cons.1 hq with rfl | hq
   ·exact pctF_FW hy
   ·rw [List.mem_singleton.1 hq]; exact pctF_FW hz
 | a :: b :: c :: d :: r => rw [hw] at h; cases h
theorem chk_ok {a : List Nat} {j : Nat} {z : Ez} (j4 : j ≤ 4) (h : chkF a j = some z) : OKZ z := by
 unfold chkF at h
 split at h
 ·cases h
 ·next c =>
  split at h
  ·cases h
  ·next c2 =>
   injection h with h
   subst h
   simp only [not_or] at c c2
   have h9 : allD a = true := by
    cases h : allD a
    ·exact absurd h c.2.2.1
    ·rfl
   have := dval_lt9 h9 (by omega)
   exact ⟨by omega, this, by omega, j4, fun e => by
    have h5 := c2.2
    rw [not_and] at h5
    have := h5 e
    omega⟩
theorem curve_ok {l : List (List Nat)} {z : Ez} (h : curveF l = some z) : OKZ z := by
 unfold curveF at h
 split at h
 ·next a b c d hm =>
  split at h
  ·next h1 =>
   injection h with h
   subst h
   have hs := (mapM_spec hm).2
   have f : ∀ y ∈ [a, b, c, d], FW y := fun y hy => by
    obtain ⟨x, hx⟩ := hs y hy
    exact numE_FW hx
   exact ⟨f a (by simp), f b (by simp), f c (by simp), f d (by simp), h1.1, h1.2⟩
  ·cases h
 ·cases h
theorem steps_ok {l : List (List Nat)} {z : Ez} (h : stepsF l = some z) : OKZ z := by
 match l with
 | [] => cases h
 | [a] => exact chk_ok (by omega) h
 | [a, b] => exact chk_ok (jump_le b) h
 | a :: b :: c :: r => cases h
theorem pts_ok {l : List (List Nat)} {z : Ez} (h : ptsF l = some z) : OKZ z := by
 unfold ptsF at h
 split at h
 ·cases h
 ·next c =>
  obtain ⟨ps, hp, rfl⟩ := Option.map_eq_some_iff.1 h
  obtain ⟨h1, h2⟩ := mapM_spec hp
  refine ⟨by omega, by omega, fun p hp => ?_⟩
  obtain ⟨x, hx⟩ := h2 p hp
  exact ptF_OP hx
theorem fw_consts : FW 4598175219545276416 ∧ FW 4591870180066957722 ∧ FW 4607182418800017408 ∧ FW 4601237667291888353 ∧ FW 0 ∧ FW 4603399395113026191 := by
 unfold FW U
 exact ⟨⟨by decide, by decide⟩, ⟨by decide, by decide⟩, ⟨by decide, by decide⟩, ⟨by decide, by decide⟩, ⟨by decide, by decide⟩, ⟨by decide, by decide⟩⟩
theorem inu_consts : inU (pl 4598175219545276416) = true ∧ inU (pl 4601237667291888353) = true ∧ inU (pl 4607182418800017408) = true ∧ inU (pl 0) = true ∧ inU (pl 4603399395113026191) = true := by
 refine ⟨?_, ?_, ?_, ?_, ?_⟩ <;> decide +kernel
theorem kw_ok {t : List Nat} {z : Ez} (h : kwF t = some z) : OKZ z := by
 obtain ⟨f1, f2, f3, f4, f5, f6⟩ := fw_consts
 obtain ⟨u1, u2, u3, u4, u5⟩ := inu_consts
 unfold kwF at h
 split at h
 ·injection h with h; subst h; trivial
 split at h
 ·injection h with h; subst h; exact ⟨f1, f2, f1, f3, u1, u1⟩
 split at h
 ·injection h with h; subst h; exact ⟨f4, f5, f3, f3, u2, u3⟩
 split at h
 ·injection h with h; subst h; exact ⟨f5, f5, f6, f3, u4, u5⟩
 split at h
 ·injection h with h; subst h; exact ⟨f4, f5, f6, f3, u2, u5⟩
 split at h
 ·injection h with h; subst h; exact ⟨by omega, by omega, by omega, by omega, by omega⟩
 split at h
 ·injection h with h; subst h; exact ⟨by omega, by omega, by omega, by omega, by omega⟩
 cases h
theorem parse_ok {s : List Nat} {z : Ez} (h : parseF s = some z) : OKZ z := by
 unfold parseF at h
 split at h
 ·cases h
 split at h
 ·next z' e => injection h with h; subst h; exact kw_ok e
 unfold argF at h
 split at h
 ·unfold fnF at h
  split at h
  ·exact curve_ok h
  split at h
  ·exact steps_ok h
  split at h
  ·exact pts_ok h
  cases h
 ·cases h
theorem parse_long {s : List Nat} (h : 2000 < s.length) : parseF s = none := by unfold parseF; rw [if_pos h]
end Go.Proofs.YtlgencbldbpbdaaGreatDoor
namespace Go.Proofs.YtlgencbldbpbdaaGreatDoor
open Go.RowKit Fl
end Go.Proofs.YtlgencbldbpbdaaGreatDoor
namespace Go.Proofs.YtlgencbldbpbdaaGreatDoor
open Go.RowKit Fl
end Go.Proofs.YtlgencbldbpbdaaGreatDoor
namespace Go.Proofs.YtlgencbldbpbdaaGreatDoor
open Go.RowKit Fl
theorem trimN_head (l : List Nat) : trimN (32 :: l) = trimN l := by
 unfold trimN
 rw [List.reverse_cons, List.dropWhile_append]
 split
 ·next h =>
  rw [List.isEmpty_iff] at h
  rw [h]; rfl
 ·rw [List.reverse_append]
  rfl
theorem trimN_last (l : List Nat) : trimN (l ++ [32]) = trimN l := by
 unfold trimN
 rw [List.reverse_append]
 rfl
set_option maxRecDepth 100000 in
set_option maxHeartbeats 1000000 in
theorem k54 (s : ByteArray) (w : World) (hs : s.size ≤ 4611686018427387904) :
  Calls Tryz.prog 54 #[.string s] w fun e w' => (∃ z : ByteArray, e = .returned (.string z) ∧ bl z = trimN (bl s) ∧ z.size ≤ s.size) ∧ w = w' := by
 have HS := Lib.hid hs
 clear hs
 go_enter Tryz.func54, Tryz.ntmps54
 go_wp2_with fail
 go_loopw [0] (fun v wx => ∃ z : ByteArray, v = .string z ∧ Hid (z.size ≤ s.size) ∧ Hid (trimN (bl z) = trimN (bl s)) ∧ wx = w) (fun v _ => sizeOf' v)
 case atStart => exact ⟨s, rfl, Lib.hid (Nat.le_refl _), Lib.hid rfl, rfl⟩
 case round =>
  obtain ⟨z, rfl, hz, hI, rfl⟩ := hrel
  have z1 : (z.size : Int) ≤ 4611686018427387904 := by have := hz.out; have := HS.out; omega
  by_cases hb : (bl z).head? = some 32
  ·have h0 : 0 < z.size := by
    rw [← bl_len]
    cases h : bl z with
    | nil => rw [h] at hb; cases hb
    | cons x l => simp
   have hx := bl_get z 0 h0
   have z2 : (0 : Int) < (z.size : Int) := by omega
   have z3 : (1 : Int) ≤ (z.size : Int) := by omega
   have b0 : ((z[0]).toNat : Int) = 32 := by
    have : (bl z)[0]? = some 32 := by rw [← List.head?_eq_getElem?]; exact hb
    rw [this] at hx
    injection hx with hx
    omega
   have E : Hid (trimN (bl (z.extract 1 z.size)) = trimN (bl s)) := Lib.hid (by
    rw [bl_tail, ← hI.out]
    cases h : bl z with
    | nil => rw [h] at hb; cases hb
    | cons x l =>
      rw [h] at hb
      injection hb with hb
      subst hb
      rw [trimN_head]; rfl)
   have S2 : Hid ((z.extract 1 z.size).size ≤ s.size) := Lib.hid (by rw [ByteArray.size_extract]; have := hz.out; omega)
   have S3 : Hid ((z.extract 1 z.size).size < z.size) := Lib.hid (by rw [ByteArray.size_extract]; omega)
   clear hx hb
   go_wp2_with fail
   go_roundw
   case rel => exact ⟨_, rfl, S2, E, trivial⟩
   case measure => exact S3.out
  ·have Z0 : Hid ((bl z).head? ≠ some 32) := Lib.hid hb
   by_cases h0 : 0 < z.size
   ·have hx := bl_get z 0 h0
    have b0 : (((z[0]).toNat : Int) == 32) = false := beq_eq_false_iff_ne.2 (fun e => hb (by
     rw [List.head?_eq_getElem?, hx]
     congr 1
     omega))
    have z2 : (0 : Int) < (z.size : Int) := by omega
    clear hx hb
    go_wp2_with fail
    go_loopw [0] (fun v wx => ∃ y : ByteArray, v = .string y ∧ Hid (y.size ≤ s.size) ∧ Hid (trimN (bl y) = trimN (bl s) ∧ (bl y).head? ≠ some 32) ∧ wx = wr) (fun v _ => sizeOf' v)
    case atStart => exact ⟨z, rfl, hz, Lib.hid ⟨hI.out, Z0.out⟩, rfl⟩
    case round =>
     obtain ⟨y, rfl, hy, hJ, rfl⟩ := hrel
     have y1 : (y.size : Int) ≤ 4611686018427387904 := by have := hy.out; have := HS.out; omega
     by_cases hb : (bl y).getLast? = some 32
     ·obtain ⟨l, hl⟩ : ∃ l, bl y = l ++ [32] := by
       rcases List.eq_nil_or_concat (bl y) with h | ⟨t, q, h⟩
       ·rw [h] at hb; cases hb
       ·rw [h, List.concat_eq_append, List.getLast?_concat] at hb
        injection hb with hb
        subst hb
        exact ⟨t, by rw [h, List.concat_eq_append]⟩
      obtain ⟨j, hj⟩ : ∃ j, j = l.length := ⟨_, rfl⟩
      have sy : y.size = j + 1 := by rw [← bl_len, hl, hj]; simp
      have hjz : j < y.size := by omega
      have hx := bl_get y j hjz
      have b0 : ((y[j]).toNat : Int) = 32 := by
       have e : (bl y)[j]? = some 32 := by rw [hl, hj, List.getElem?_append_right (Nat.le_refl _), Nat.sub_self]; rfl
       rw [e] at hx
       injection hx with hx
       omega
      have eb : bl (y.extract 0 j) = l := by
       rw [bl_extract, List.drop_zero, hl, hj, List.take_left]
      have l0 : l ≠ [] := fun e => hJ.out.2 (by rw [hl, e]; rfl)
      have E : Hid (trimN (bl (y.extract 0 j)) = trimN (bl s) ∧ (bl (y.extract 0 j)).head? ≠ some 32) := Lib.hid (by
       rw [eb]
       refine ⟨by rw [← hJ.out.1, hl, trimN_last], ?_⟩
       have := hJ.out.2
       rw [hl] at this
       cases l with
       | nil => exact absurd rfl l0
       | cons a r => exact this)
      have y2 : (0 : Int) < (y.size : Int) := by omega
      have y3 : (1 : Int) ≤ (y.size : Int) := by omega
      have y4 : (y.size : Int) - 1 = (j : Int) := by omega
      have y5 : (j : Int) < (y.size : Int) := by omega
      have S2 : Hid ((y.extract 0 j).size ≤ s.size) := Lib.hid (by rw [ByteArray.size_extract]; have := hy.out; omega)
      have S3 : Hid ((y.extract 0 j).size < y.size) := Lib.hid (by rw [ByteArray.size_extract]; omega)
      clear hx hb hl eb l0 sy hj
      go_wp2_with fail
      go_roundw
      case rel =>
       first
        | exact ⟨_, rfl, S2, E, trivial⟩
        | ((repeat apply Exists.intro); exact ⟨⟨_, rfl, S2, E, trivial⟩, rfl⟩)
      case measure => exact S3.out
     ·have F : Hid (bl y = trimN (bl s)) := Lib.hid (by rw [← hJ.out.1, trimN_id hJ.out.2 hb])
      by_cases h1 : 0 < y.size
      ·obtain ⟨j, hj⟩ : ∃ j, y.size = j + 1 := ⟨y.size - 1, by omega⟩
       have hjz : j < y.size := by omega
       have hx := bl_get y j hjz
       have b0 : ¬ ((y[j]).toNat : Int) = 32 := fun e => hb (by
        rw [List.getLast?_eq_getElem?, bl_len, hj, Nat.add_sub_cancel, hx]
        congr 1
        omega)
       have y2 : (0 : Int) < (y.size : Int) := by omega
       have y3 : (1 : Int) ≤ (y.size : Int) := by omega
       have y4 : (y.size : Int) - 1 = (j : Int) := by omega
       have y5 : (j : Int) < (y.size : Int) := by omega
       clear hx hb h1 hj
       go_wp2_with fail
       go_ret
       exact ⟨⟨_, rfl, F.out, hy.out⟩, rfl⟩
      ·have y2 : ¬ (0 : Int) < (y.size : Int) := by omega
       clear hb h1
       go_wp2_with fail
       go_ret
       exact ⟨⟨_, rfl, F.out, hy.out⟩, rfl⟩
   ·have z2 : ¬ (0 : Int) < (z.size : Int) := by omega
    clear hb h0
    go_wp2_with fail
    go_loopw [0] (fun v wx => ∃ y : ByteArray, v = .string y ∧ Hid (y.size ≤ s.size) ∧ Hid (trimN (bl y) = trimN (bl s) ∧ (bl y).head? ≠ some 32) ∧ wx = wr) (fun v _ => sizeOf' v)
    case atStart => exact ⟨z, rfl, hz, Lib.hid ⟨hI.out, Z0.out⟩, rfl⟩
    case round =>
     obtain ⟨y, rfl, hy, hJ, rfl⟩ := hrel
     have y1 : (y.size : Int) ≤ 4611686018427387904 := by have := hy.out; have := HS.out; omega
     by_cases hb : (bl y).getLast? = some 32
     ·obtain ⟨l, hl⟩ : ∃ l, bl y = l ++ [32] := by
       rcases List.eq_nil_or_concat (bl y) with h | ⟨t, q, h⟩
       ·rw [h] at hb; cases hb
       ·rw [h, List.concat_eq_append, List.getLast?_concat] at hb
        injection hb with hb
        subst hb
        exact ⟨t, by rw [h, List.concat_eq_append]⟩
      obtain ⟨j, hj⟩ : ∃ j, j = l.length := ⟨_, rfl⟩
      have sy : y.size = j + 1 := by rw [← bl_len, hl, hj]; simp
      have hjz : j < y.size := by omega
      have hx := bl_get y j hjz
      have b0 : ((y[j]).toNat : Int) = 32 := by
       have e : (bl y)[j]? = some 32 := by rw [hl, hj, List.getElem?_append_right (Nat.le_refl _), Nat.sub_self]; rfl
       rw [e] at hx
       injection hx with hx
       omega
      have eb : bl (y.extract 0 j) = l := by
       rw [bl_extract, List.drop_zero, hl, hj, List.take_left]
      have l0 : l ≠ [] := fun e => hJ.out.2 (by rw [hl, e]; rfl)
      have E : Hid (trimN (bl (y.extract 0 j)) = trimN (bl s) ∧ (bl (y.extract 0 j)).head? ≠ some 32) := Lib.hid (by
       rw [eb]
       refine ⟨by rw [← hJ.out.1, hl, trimN_last], ?_⟩
       have := hJ.out.2
       rw [hl] at this
       cases l with
       | nil => exact absurd rfl l0
       | cons a r => exact this)
      have y2 : (0 : Int) < (y.size : Int) := by omega
      have y3 : (1 : Int) ≤ (y.size : Int) := by omega
      have y4 : (y.size : Int) - 1 = (j : Int) := by omega
      have y5 : (j : Int) < (y.size : Int) := by omega
      have S2 : Hid ((y.extract 0 j).size ≤ s.size) := Lib.hid (by rw [ByteArray.size_extract]; have := hy.out; omega)
      have S3 : Hid ((y.extract 0 j).size < y.size) := Lib.hid (by rw [ByteArray.size_extract]; omega)
      clear hx hb hl eb l0 sy hj
      go_wp2_with fail
      go_roundw
      case rel =>
       first
        | exact ⟨_, rfl, S2, E, trivial⟩
        | ((repeat apply Exists.intro); exact ⟨⟨_, rfl, S2, E, trivial⟩, rfl⟩)
      case measure => exact S3.out
     ·have F : Hid (bl y = trimN (bl s)) := Lib.hid (by rw [← hJ.out.1, trimN_id hJ.out.2 hb])
      by_cases h1 : 0 < y.size
      ·obtain ⟨j, hj⟩ : ∃ j, y.size = j + 1 := ⟨y.size - 1, by omega⟩
       have hjz : j < y.size := by omega
       have hx := bl_get y j hjz
       have b0 : ¬ ((y[j]).toNat : Int) = 32 := fun e => hb (by
        rw [List.getLast?_eq_getElem?, bl_len, hj, Nat.add_sub_cancel, hx]
        congr 1
        omega)
       have y2 : (0 : Int) < (y.size : Int) := by omega
       have y3 : (1 : Int) ≤ (y.size : Int) := by omega
       have y4 : (y.size : Int) - 1 = (j : Int) := by omega
       have y5 : (j : Int) < (y.size : Int) := by omega
       clear hx hb h1 hj
       go_wp2_with fail
       go_ret
       exact ⟨⟨_, rfl, F.out, hy.out⟩, rfl⟩
      ·have y2 : ¬ (0 : Int) < (y.size : Int) := by omega
       clear hb h1
       go_wp2_with fail
       go_ret
       exact ⟨⟨_, rfl, F.out, hy.out⟩, rfl⟩
set_option maxRecDepth 100000 in
theorem k157 (x : Nat) (w : World) (hx : U x) : Calls Tryz.prog 157 #[.float .f64 x] w fun e w' => e = .returned (.bool (decide (rg x < INF))) ∧ w = w' := by
 have h1 := b_mag x hx
 obtain ⟨b, hb⟩ : ∃ b, b = decide (rg x < INF) := ⟨_, rfl⟩
 have h2 : decide ((rg x : Int) < 9218868437227405312) = b := by
  rw [hb]
  refine decide_eq_decide.2 ?_
  unfold INF
  omega
 rw [← hb]
 clear hb
 generalize rg x = r at *
 go_enter Tryz.func157, Tryz.ntmps157
 go_wp2
 go_ret
 exact ⟨by first | rw [h2] | rfl, rfl⟩
set_option maxRecDepth 100000 in
theorem k100 (s : ByteArray) (w : World) (hs : s.size ≤ 100000) : Calls Tryz.prog 100 #[.string s] w fun e w' => e = .returned (.tuple #[.float .f64 (pW (bl s)), .bool (numE (bl s)).isSome]) ∧ Below w.heap.size w w' := by
 have C := Lib.hid (rParse s w (by omega))
 have I := Lib.hid (fun wx => k157 (pW (bl s)) wx (pW_U (bl s)).1)
 have HN : (numE (bl s)).isSome = (decide (pErr (bl s) = 0) && decide (pN (bl s) = s.size) && decide (rg (pW (bl s)) < INF)) := by
  unfold numE
  rw [bl_len]
  by_cases c1 : pErr (bl s) = 0 <;> by_cases c2 : pN (bl s) = s.size <;> by_cases c3 : rg (pW (bl s)) < INF <;> simp [c1, c2, c3]
 obtain ⟨R, hR⟩ : ∃ R, R = (numE (bl s)).isSome := ⟨_, rfl⟩
 obtain ⟨F, hF⟩ : ∃ F, F = decide (rg (pW (bl s)) < INF) := ⟨_, rfl⟩
 rw [← hR, ← hF] at HN
 rw [← hF] at I
 rw [← hR]
 have hz := Lib.hid (show (s.size : Int) ≤ 100000 by omega)
 clear hR hs hF
 generalize pW (bl s) = x at *
 generalize pN (bl s) = N at *
 generalize pErr (bl s) = q at *
 have HR := Lib.hid HN
 by_cases c1 : q = 0
 ·subst c1
  by_cases c2 : N = s.size
  ·subst c2
   clear HN
   cases F
   all_goals
    go_enter Tryz.func100, Tryz.ntmps100
    go_wp2_with (first | (go_at_call 156; refine C.out.mono ?_; rintro e w' ⟨rfl, hb⟩; have B := Lib.hid hb; clear hb) | (go_at_call 157; refine (I.out _).mono ?_; rintro e w1 ⟨rfl, rfl⟩))
    go_ret2
    exact ⟨by rw [HR.out]; simp, B.out⟩
  ·have c2i : ((N : Int) == (s.size : Int)) = false := beq_eq_false_iff_ne.2 (by omega)
   have c3 := Lib.hid c2
   clear HN c2
   go_enter Tryz.func100, Tryz.ntmps100
   go_wp2_with (first | (go_at_call 156; refine C.out.mono ?_; rintro e w' ⟨rfl, hb⟩; have B := Lib.hid hb; clear hb) | (go_at_call 157; refine (I.out _).mono ?_; rintro e w1 ⟨rfl, rfl⟩))
   go_ret2
   exact ⟨by rw [HR.out, decide_eq_false c3.out]; simp, B.out⟩
 ·have c1i : ((q : Int) == 0) = false := beq_eq_false_iff_ne.2 (by omega)
  have c3 := Lib.hid c1
  clear HN c1
  go_enter Tryz.func100, Tryz.ntmps100
  go_wp2_with (first | (go_at_call 156; refine C.out.mono ?_; rintro e w' ⟨rfl, hb⟩; have B := Lib.hid hb; clear hb) | (go_at_call 157; refine (I.out _).mono ?_; rintro e w1 ⟨rfl, rfl⟩))
  go_ret2
  exact ⟨by rw [HR.out, decide_eq_false c3.out]; simp, B.out⟩
end Go.Proofs.YtlgencbldbpbdaaGreatDoor
namespace Go.Proofs.YtlgencbldbpbdaaGreatDoor
open Go.RowKit Fl
theorem cCut (s : ByteArray) (w : World) (he : EW w) (hs : s.size < 4294967281) : Calls Tryz.prog 41 #[.string s, .string ⟨#[40]⟩] w fun e w' => (∃ y z : ByteArray, e = .returned (.tuple #[.string y, .string z, .bool (decide (40 ∈ bl s))]) ∧ z.size ≤ s.size ∧
  (40 ∈ bl s → bl y = befN 40 (bl s) ∧ bl z = aftN 40 (bl s))) ∧ ∃ n, w' = w.drewN n := by
 obtain ⟨m, hm⟩ := he.2.2.2
 refine (Any.strings_Cut { laysM145 with } s ⟨#[40]⟩ m w hs hm).mono ?_
 rintro e w' ⟨rfl, n, rfl⟩
 refine ⟨?_, n, rfl⟩
 rw [show (⟨#[40]⟩ : ByteArray).data.toList = [40] from rfl]
 by_cases h : 40 ∈ bl s
 ·obtain ⟨y, z, e1, e2, e3, e4, e5⟩ := cut_bl 40 s h
  rw [e1, e2, e3]
  refine ⟨y, z, by rw [decide_eq_true h], ?_, fun _ => ⟨e4, e5⟩⟩
  rw [← bl_len, ← bl_len, e5]
  unfold aftN
  have h1 := (List.dropWhile_sublist (· != UInt8.toNat 40) (l := bl s)).length_le
  rw [List.length_drop]
  omega
 ·obtain ⟨e2, e3⟩ := cut_bl_no 40 s h
  rw [e2, e3]
  exact ⟨_, _, by rw [decide_eq_false h], Nat.zero_le _, fun c => absurd c h⟩
def SB (w : World) (g : Nat) (vs : List ByteArray) : Prop := w.heap[g]? = some (.cells (vs.map Value.string).toArray 9 (0, 0))
theorem SB.lt {w : World} {g : Nat} {vs : List ByteArray} (h : SB w g vs) : g < w.heap.size := (Array.getElem?_eq_some_iff.1 h).1
theorem SB.cell {w : World} {g : Nat} {vs : List ByteArray} (h : SB w g vs) {k : Nat} {x : ByteArray} (hk : vs[k]? = some x) : w.cell? ⟨g, k, none⟩ = some (.string x) := by
 unfold SB at h
 simp [World.cell?, h, hk]
theorem SB.frozen {w : World} {g : Nat} {vs : List ByteArray} (h : SB w g vs) (k : Nat) : w.frozen? ⟨g, k, none⟩ = false := by
 unfold SB at h
 simp [World.frozen?, h]
theorem SB.below {w w' : World} {g : Nat} {vs : List ByteArray} (h : SB w g vs) (hb : Below w.heap.size w w') : SB w' g vs := (hb.block g h.lt).trans h
theorem SB.set {w : World} {g : Nat} {vs : List ByteArray} (h : SB w g vs) (k : Nat) (y : ByteArray) : SB (w.setCell ⟨g, k, none⟩ (.string y)) g (vs.set k y) := by
 unfold SB at h ⊢
 unfold World.setCell
 simp [Array.getElem?_modify, h, List.map_set]
theorem SB.ls {w : World} {g : Nat} {vs : List ByteArray} (h : SB w g vs) : LS w g vs := ⟨h.lt, fun _ _ hk => h.cell hk⟩
theorem cSplit (s : ByteArray) (w : World) (he : EW w) (hs : s.size ≤ 2000) : Calls Tryz.prog 43 #[.string s, .string ⟨#[44]⟩] w fun e w' => ∃ vs : List ByteArray, e = .returned (.slice (some ⟨w.heap.size, 0, none⟩) vs.length vs.length) ∧ vs.map bl = splN 44 (bl s) ∧ SB w' w.heap.size vs ∧ 1 ≤ vs.length ∧ vs.length ≤ 2001 ∧ Below w.heap.size w w' := by
 obtain ⟨m, hm⟩ := he.2.2.2
 refine (Any.strings_Split { laysM146 with } laysM146.i9 s ⟨#[44]⟩ m w (by omega) hm (by decide)).mono ?_
 rintro e w' ⟨rfl, rfl⟩
 obtain ⟨h1, h2⟩ := split_bl 44 s
 refine ⟨Lib.splitB ⟨#[44]⟩ 0 (Lib.countB s ⟨#[44]⟩) s, by rw [h2], h1, heap_alloc_new w _, by omega, ?_, (Below.refl _ _).alloc (Nat.le_refl _) _⟩
 have h3 := splN_length 44 (bl s)
 have h4 := congrArg List.length h1
 rw [List.length_map] at h4
 rw [show ((44 : UInt8).toNat) = 44 from rfl] at h4
 rw [h4]
 rw [bl_len] at h3
 omega
theorem set_next {zs xs : List ByteArray} {k : Nat} (hz : zs.length = k) (hk : k < xs.length) (y : ByteArray) : (zs ++ xs.drop k).set k y = (zs ++ [y]) ++ xs.drop (k + 1) := by
 rw [List.set_append_right _ _ (by omega), hz, Nat.sub_self, List.append_assoc]
 congr 1
 rw [List.drop_eq_getElem_cons hk]
 rfl
theorem take_next {xs : List ByteArray} {k : Nat} {x : ByteArray} (hk : xs[k]? = some x) : xs.take (k + 1) = xs.take k ++ [x] := by
 rw [List.take_add_one, hk]
 rfl
theorem get_next {zs xs : List ByteArray} {k : Nat} {x : ByteArray} (hz : zs.length = k) (hk : xs[k]? = some x) : (zs ++ xs.drop k)[k]? = some x := by
 rw [List.getElem?_append_right (by omega), hz, Nat.sub_self, List.getElem?_drop, Nat.add_zero, hk]
theorem kw_facts (t : List Nat) : (t = aLinear → kwF t = some .line) ∧
  (t = aEase → kwF t = some (.curve 4598175219545276416 4591870180066957722 4598175219545276416 4607182418800017408)) ∧
  (t = aEaseIn → kwF t = some (.curve 4601237667291888353 0 4607182418800017408 4607182418800017408)) ∧
  (t = aEaseOut → kwF t = some (.curve 0 0 4603399395113026191 4607182418800017408)) ∧
  (t = aEaseIO → kwF t = some (.curve 4601237667291888353 0 4603399395113026191 4607182418800017408)) ∧
  (t = aStepStart → kwF t = some (.steps 1 1)) ∧ (t = aStepEnd → kwF t = some (.steps 1 2)) ∧
  (t ≠ aLinear → t ≠ aEase → t ≠ aEaseIn → t ≠ aEaseOut → t ≠ aEaseIO → t ≠ aStepStart → t ≠ aStepEnd → kwF t = none) := by
 refine ⟨?_, ?_, ?_, ?_, ?_, ?_, ?_, ?_⟩
 ·rintro rfl; rfl
 ·rintro rfl; rfl
 ·rintro rfl; rfl
 ·rintro rfl; rfl
 ·rintro rfl; rfl
 ·rintro rfl; rfl
 ·rintro rfl; rfl
 ·intro h1 h2 h3 h4 h5 h6 h7
  unfold kwF
  rw [if_neg h1, if_neg h2, if_neg h3, if_neg h4, if_neg h5, if_neg h6, if_neg h7]
theorem parse_kw {s : List Nat} {z : Ez} (h : s.length ≤ 2000) (hz : kwF (trimN s) = some z) : parseF s = some z := by
 unfold parseF
 rw [if_neg (by omega), hz]
theorem parse_ar {s : List Nat} (h : s.length ≤ 2000) (hz : kwF (trimN s) = none) : parseF s = argF (trimN s) := by
 unfold parseF
 rw [if_neg (by omega), hz]
theorem arg_none {t : List Nat} (h : ¬ (40 ∈ t ∧ (aftN 40 t).getLast? = some 41)) : argF t = none := by
 unfold argF
 rw [if_neg h]
theorem arg_fn {t : List Nat} (h : 40 ∈ t) (h2 : (aftN 40 t).getLast? = some 41) : argF t = fnF (befN 40 t) ((splN 44 (aftN 40 t).dropLast).map trimN) := by
 unfold argF
 rw [if_pos ⟨h, h2⟩]
theorem fn_none {n : List Nat} (l : List (List Nat)) (h1 : n ≠ aCubic) (h2 : n ≠ aStepsW) (h3 : n ≠ aLinear) : fnF n l = none := by
 unfold fnF
 rw [if_neg h1, if_neg h2, if_neg h3]
end Go.Proofs.YtlgencbldbpbdaaGreatDoor
