/- galleyref16: row; what stands in memory while a row is read. galleyref16: row; the walk. galleyref16: Parse; the walk (printed by gen_rxm.py). -/
import Derived.Test.YtlgencbldbpbdaaGreatDoorMgRxH
import Derived.Maps.AppendAt
import Derived.BigRegion
import Derived.Test.YtlgencbldbpbdaaGreatDoorMgEbK
namespace Go.Proofs.YtlgencbldbpbdaaGreatDoor
open Go.RowKit Fl
theorem app_at {w0 : World} {ops : Array Oper} {rest : List Oper} {o : Oper} {a : Act} {Q : Exit → Act → World → Prop} (hgd : o.guard = none) (s x : Operand) (t e : TypeId)
  (ho : o.op = .call { callee := .builtin .append, args := #[s, x], argTypes := #[t, t] }) (z : Value) (size bytes : Nat) (hu : Tryz.prog.underlying t = some (.slice e)) (hinfo : (Tryz.prog.info? e).map (fun i => (i.zero, i.size, i.bytes)) = some (some z, size, bytes)) (hzs : z.cells.size = size) (hs0 : 0 < size)
  (B : Nat) (v : Value) (n : Nat) (xs : List Value) (hs : a.eval s = v) (hown : w0.ownsRow B e size v n xs) (cs : Array Value) (hcs : cs.size = size) (h1 : ∀ u ∈ cs.toList, u.oneCell' = true) (hx : a.eval x = .slice (some ⟨w0.heap.size, 0, none⟩) 1 1) (hn : n ≤ 1000000) (hb : (n + 1) * bytes ≤ 140737488355328) (hB : B ≤ w0.heap.size)
  (h : ∀ v' w', w'.ownsRow B e size v' (n + 1) (xs ++ cs.toList) → w0.grownBy w' v.ownBlock → (v'.ownBlock = v.ownBlock ∨ ∃ N, v'.ownBlock = some N ∧ w0.heap.size ≤ N) → wpList Tryz.prog ops Q rest (a.put o.dst v') w') : wpList Tryz.prog ops Q (o :: rest) a (w0.alloc (.cells cs e)) := by
 obtain ⟨i0, hi, hz0, hz1, hz2⟩ := info_parts hinfo
 refine wpList_append_own_at _ hgd s x t ho B e i0 z size bytes hu hi hz0 hz1 hz2 hzs hs0 v n xs hs (hown.alloc _) ⟨w0.heap.size, 0, none⟩ 1 1 cs.toList hx (by rw [Array.length_toList, hcs, Nat.one_mul]) ?_ h1 (by unfold maxLen; omega) hb (by simp; omega) ?_
 ·intro j u hj
  have := World.cell?_alloc_new w0 cs e j
  rw [show (Addr.add ⟨w0.heap.size, 0, none⟩ j) = ⟨w0.heap.size, j, none⟩ by simp [Addr.add]; omega]
  rw [this]
  simpa using hj
 ·intro v' w' own grow _ hat
  refine h v' w' own (grown_trans (World.grownBy_alloc w0 _ _) grow) ?_
  rcases hat with e | e
  ·exact .inl e
  ·exact .inr ⟨_, e, by simp⟩
def EC (vL vi vo : Value) : Array Value := #[.int .u8 112, .float .f64 0, .float .f64 0, .float .f64 0, .float .f64 0, .int .i64 0, .string ⟨#[]⟩, vL, vi, vo]
def PA (w : World) (B : Nat) (u vi vo : Value) (l : List Nat) : Prop := w.ownsRow B 31 1 u l.length (l.map fv) ∧ (u.ownBlock = none ∨ (u.ownBlock ≠ vi.ownBlock ∧ u.ownBlock ≠ vo.ownBlock))
def LO (w : World) (B : Nat) (xL : List Value) (vi vo : Value) (ps : List (Nat × List Nat)) : Prop := ∀ (k : Nat) p, ps[k]? = some p → xL[k * 2]? = some (.float .f64 p.1) ∧ ∃ u, xL[k * 2 + 1]? = some u ∧ PA w B u vi vo p.2
structure RS (w0 w : World) (g : Nat) (vL vi vo vh : Value) (ps : List (Nat × List Nat)) (mi mo mh : Nat) : Prop where
 kr : BK w g Z10 43
 ke : BK w (g + 1) (EC vL vi vo) 43
 l : ∃ xL, w.ownsRow (g + 2) 118 2 vL ps.length xL ∧ LO w (g + 2) xL vi vo ps
 i : ∃ xs : List Nat, w.ownsRow (g + 2) 31 1 vi mi (xs.map fv)
 o : ∃ xs : List Nat, w.ownsRow (g + 2) 31 1 vo mo (xs.map fv)
 h : ∃ bs : List Bool, w.ownsRow (g + 2) 4 1 vh mh (bs.map Value.bool)
 ne : vi.ownBlock = none ∨ vi.ownBlock ≠ vo.ownBlock
 b : Below g w0 w
theorem PA.kept {w w' : World} {B : Nat} {u vi vo : Value} {l : List Nat} {row : Option Nat} (h : PA w B u vi vo l) (hg : w.grownBy w' row) (hne : u.ownBlock = none ∨ u.ownBlock ≠ row) : PA w' B u vi vo l := ⟨h.1.kept hg hne, h.2⟩
theorem PA.below {w w' : World} {B : Nat} {u vi vo : Value} {l : List Nat} (h : PA w B u vi vo l) (hb : Below w.heap.size w w') : PA w' B u vi vo l := ⟨own_below1 h.1 hb, h.2⟩
theorem LO.map {w w' : World} {B : Nat} {xL : List Value} {vi vo vi' vo' : Value} {ps : List (Nat × List Nat)} (h : LO w B xL vi vo ps) (f : ∀ u l, PA w B u vi vo l → PA w' B u vi' vo' l) : LO w' B xL vi' vo' ps := fun k p hk => by
 obtain ⟨h1, u, h2, h3⟩ := h k p hk
 exact ⟨h1, u, h2, f _ _ h3⟩
theorem own_ne {w : World} {B e size n b : Nat} {v : Value} {xs : List Value} (h : w.ownsRow B e size v n xs) (hb : b < B) : v.ownBlock ≠ some b := fun e => by
 have := (h.lt b e).1
 omega
theorem RS.below {w0 w w' : World} {g : Nat} {vL vi vo vh : Value} {ps : List (Nat × List Nat)} {mi mo mh : Nat} (h : RS w0 w g vL vi vo vh ps mi mo mh) (hb : Below w.heap.size w w') : RS w0 w' g vL vi vo vh ps mi mo mh := by
 obtain ⟨xL, l1, l2⟩ := h.l
 obtain ⟨xi, i1⟩ := h.i
 obtain ⟨xo, o1⟩ := h.o
 obtain ⟨xh, h1⟩ := h.h
 exact ⟨h.kr.below hb, h.ke.below hb, ⟨xL, own_below1 l1 hb, l2.map fun _ _ p => p.below hb⟩, ⟨xi, own_below1 i1 hb⟩, ⟨xo, own_below1 o1 hb⟩, ⟨xh, own_below1 h1 hb⟩, h.ne, h.b.trans (hb.mono (Nat.le_of_lt h.kr.lt))⟩
theorem RS.drewN {w0 w : World} {g : Nat} {vL vi vo vh : Value} {ps : List (Nat × List Nat)} {mi mo mh : Nat} (h : RS w0 w g vL vi vo vh ps mi mo mh) (n : Nat) : RS w0 (w.drewN n) g vL vi vo vh ps mi mo mh := h.below (Bdn (Below.refl _ _) n)
theorem RS.point {w0 w w' : World} {g : Nat} {vL vi vo vh vL' u : Value} {ps : List (Nat × List Nat)} {mi mo mh q : Nat} {l : List Nat} {xL : List Value} (h : RS w0 w g vL vi vo vh ps mi mo mh) (l1 : w.ownsRow (g + 2) 118 2 vL ps.length xL) (l2 : LO w (g + 2) xL vi vo ps) (hp : PA w (g + 2) u vi vo l)
  (ho : w'.ownsRow (g + 2) 118 2 vL' (ps.length + 1) (xL ++ [.float .f64 q, u])) (hg : w.grownBy w' vL.ownBlock) :
  RS w0 (w'.setCell ⟨g + 1, 7, none⟩ vL') g vL' vi vo vh (ps ++ [(q, l)]) mi mo mh ∧ PA (w'.setCell ⟨g + 1, 7, none⟩ vL') (g + 2) u vi vo l := by
 obtain ⟨xi, i1⟩ := h.i
 obtain ⟨xo, o1⟩ := h.o
 obtain ⟨xh, h1⟩ := h.h
 have hs := grown_setj w' (g + 1) 7 vL'
 have PAk : ∀ u l, PA w (g + 2) u vi vo l → PA (w'.setCell ⟨g + 1, 7, none⟩ vL') (g + 2) u vi vo l := fun u l p => (p.kept hg (own_two p.1 l1 (by decide))).kept hs (.inr (own_ne p.1 (by omega)))
 have kr := h.kr.grown hg (own_ne l1 (by omega))
 have ke := h.ke.grown hg (own_ne l1 (by omega))
 have xl : xL.length = ps.length * 2 := l1.1
 refine ⟨⟨kr.other (by omega) _ _, ?_, ⟨xL ++ [.float .f64 q, u], ?_, ?_⟩, ⟨xi, ?_⟩, ⟨xo, ?_⟩, ⟨xh, ?_⟩, h.ne, ?_⟩, PAk u l hp⟩
 ·have := ke.set 7 vL'
  simpa [EC, List.setIfInBounds_toArray] using this
 ·rw [List.length_append]
  exact ho.kept hs (.inr (own_ne ho (by omega)))
 ·intro k p hk
  by_cases hlt : k < ps.length
  ·rw [List.getElem?_append_left hlt] at hk
   obtain ⟨a1, v, a2, a3⟩ := l2 k p hk
   exact ⟨by rw [List.getElem?_append_left (by omega)]; exact a1, v, by rw [List.getElem?_append_left (by omega)]; exact a2, PAk _ _ a3⟩
  ·have hlen := (List.getElem?_eq_some_iff.1 hk).1
   rw [List.length_append] at hlen
   simp at hlen
   have hke : k = ps.length := by omega
   subst hke
   rw [List.getElem?_append_right (Nat.le_refl _), Nat.sub_self] at hk
   injection hk with hk
   subst hk
   refine ⟨?_, u, ?_, PAk _ _ hp⟩
   ·rw [List.getElem?_append_right (by omega), xl, Nat.sub_self]; rfl
   ·rw [List.getElem?_append_right (by omega), xl, Nat.add_sub_cancel_left]; rfl
 ·exact (i1.kept hg (own_two i1 l1 (by decide))).kept hs (.inr (own_ne i1 (by omega)))
 ·exact (o1.kept hg (own_two o1 l1 (by decide))).kept hs (.inr (own_ne o1 (by omega)))
 ·exact (h1.kept hg (own_two h1 l1 (by decide))).kept hs (.inr (own_ne h1 (by omega)))
 ·exact (own_row (own_base l1 (by omega)) h.b (Nat.le_of_lt h.kr.lt) hg).setCell (p := ⟨g + 1, 7, none⟩) (by show g ≤ g + 1; omega) vL'
theorem new_ne {w : World} {B e size n : Nat} {v a b : Value} {xs : List Value} {m : Nat} (h : w.ownsRow B e size v n xs) (hm : w.heap.size ≤ m) (ha : a.ownBlock = b.ownBlock ∨ ∃ N, a.ownBlock = some N ∧ m ≤ N) (hb : v.ownBlock = none ∨ v.ownBlock ≠ b.ownBlock) : v.ownBlock = none ∨ v.ownBlock ≠ a.ownBlock := by
 rcases ha with e | ⟨N, e, hN⟩
 ·rw [e]; exact hb
 ·cases hv : v.ownBlock with
  | none => exact .inl rfl
  | some k =>
    refine .inr fun hh => ?_
    rw [e] at hh
    injection hh with hh
    have := (h.lt k hv).2
    omega
theorem RS.inn {w0 w w' : World} {g : Nat} {vL vi vo vh vi' : Value} {ps : List (Nat × List Nat)} {mi mo mh x : Nat} {xs : List Nat} (h : RS w0 w g vL vi vo vh ps mi mo mh) (i1 : w.ownsRow (g + 2) 31 1 vi mi (xs.map fv))
  (ho : w'.ownsRow (g + 2) 31 1 vi' (mi + 1) (xs.map fv ++ [fv x])) (hg : w.grownBy w' vi.ownBlock) (hat : vi'.ownBlock = vi.ownBlock ∨ ∃ N, vi'.ownBlock = some N ∧ w.heap.size ≤ N) :
  RS w0 (w'.setCell ⟨g + 1, 8, none⟩ vi') g vL vi' vo vh ps (mi + 1) mo mh ∧ (∀ u l, PA w (g + 2) u vi vo l → PA (w'.setCell ⟨g + 1, 8, none⟩ vi') (g + 2) u vi' vo l) ∧ ∀ c cs, c ≠ g + 1 → BK w c cs 118 → BK (w'.setCell ⟨g + 1, 8, none⟩ vi') c cs 118 := by
 obtain ⟨xL, l1, l2⟩ := h.l
 obtain ⟨xo, o1⟩ := h.o
 obtain ⟨xh, h1⟩ := h.h
 have hs := grown_setj w' (g + 1) 8 vi'
 have sym : ∀ {a b : Value}, (a.ownBlock = none ∨ a.ownBlock ≠ b.ownBlock) → b.ownBlock = none ∨ b.ownBlock ≠ a.ownBlock := fun {a b} hh => by
  rcases hh with e | e
  ·cases hb : b.ownBlock with
   | none => exact .inl rfl
   | some k => right; rw [e]; simp
  ·exact .inr fun e2 => e e2.symm
 have PAk : ∀ u l, PA w (g + 2) u vi vo l → PA (w'.setCell ⟨g + 1, 8, none⟩ vi') (g + 2) u vi' vo l := fun u l p => by
  have q := (p.kept hg (p.2.imp id fun e => e.1)).kept hs (.inr (own_ne p.1 (by omega)))
  refine ⟨q.1, ?_⟩
  rcases p.2 with e | ⟨e1, e2⟩
  ·exact .inl e
  ·rcases new_ne p.1 (Nat.le_refl _) hat (.inr e1) with e | e
   ·exact .inl e
   ·exact .inr ⟨e, e2⟩
 have kr := h.kr.grown hg (own_ne i1 (by omega))
 have ke := h.ke.grown hg (own_ne i1 (by omega))
 refine ⟨⟨kr.other (by omega) _ _, ?_, ⟨xL, ?_, l2.map PAk⟩, ⟨xs ++ [x], ?_⟩, ⟨xo, ?_⟩, ⟨xh, ?_⟩, ?_, ?_⟩, PAk, fun c cs hc hk => (hk.grown hg (own_bk i1 hk (by decide))).other hc _ _⟩
 ·have := ke.set 8 vi'
  simpa [EC, List.setIfInBounds_toArray] using this
 ·exact (l1.kept hg (own_two l1 i1 (by decide))).kept hs (.inr (own_ne l1 (by omega)))
 ·rw [List.map_append]
  exact ho.kept hs (.inr (own_ne ho (by omega)))
 ·exact (o1.kept hg (sym h.ne)).kept hs (.inr (own_ne o1 (by omega)))
 ·exact (h1.kept hg (own_two h1 i1 (by decide))).kept hs (.inr (own_ne h1 (by omega)))
 ·exact sym (new_ne o1 (Nat.le_refl _) hat (sym h.ne))
 ·exact (own_row (own_base i1 (by omega)) h.b (Nat.le_of_lt h.kr.lt) hg).setCell (p := ⟨g + 1, 8, none⟩) (by show g ≤ g + 1; omega) vi'
theorem RS.out {w0 w w' : World} {g : Nat} {vL vi vo vh vo' : Value} {ps : List (Nat × List Nat)} {mi mo mh x : Nat} {xs : List Nat} (h : RS w0 w g vL vi vo vh ps mi mo mh) (o1 : w.ownsRow (g + 2) 31 1 vo mo (xs.map fv))
  (ho : w'.ownsRow (g + 2) 31 1 vo' (mo + 1) (xs.map fv ++ [fv x])) (hg : w.grownBy w' vo.ownBlock) (hat : vo'.ownBlock = vo.ownBlock ∨ ∃ N, vo'.ownBlock = some N ∧ w.heap.size ≤ N) :
  RS w0 (w'.setCell ⟨g + 1, 9, none⟩ vo') g vL vi vo' vh ps mi (mo + 1) mh ∧ (∀ u l, PA w (g + 2) u vi vo l → PA (w'.setCell ⟨g + 1, 9, none⟩ vo') (g + 2) u vi vo' l) ∧ ∀ c cs, c ≠ g + 1 → BK w c cs 118 → BK (w'.setCell ⟨g + 1, 9, none⟩ vo') c cs 118 := by
 obtain ⟨xL, l1, l2⟩ := h.l
 obtain ⟨xi, i1⟩ := h.i
 obtain ⟨xh, h1⟩ := h.h
 have hs := grown_setj w' (g + 1) 9 vo'
 have PAk : ∀ u l, PA w (g + 2) u vi vo l → PA (w'.setCell ⟨g + 1, 9, none⟩ vo') (g + 2) u vi vo' l := fun u l p => by
  have q := (p.kept hg (p.2.imp id fun e => e.2)).kept hs (.inr (own_ne p.1 (by omega)))
  refine ⟨q.1, ?_⟩
  rcases p.2 with e | ⟨e1, e2⟩
  ·exact .inl e
  ·rcases new_ne p.1 (Nat.le_refl _) hat (.inr e2) with e | e
   ·exact .inl e
   ·exact .inr ⟨e1, e⟩
 have kr := h.kr.grown hg (own_ne o1 (by omega))
 have ke := h.ke.grown hg (own_ne o1 (by omega))
 refine ⟨⟨kr.other (by omega) _ _, ?_, ⟨xL, ?_, l2.map PAk⟩, ⟨xi, ?_⟩, ⟨xs ++ [x], ?_⟩, ⟨xh, ?_⟩, ?_, ?_⟩, PAk, fun c cs hc hk => (hk.grown hg (own_bk o1 hk (by decide))).other hc _ _⟩
 ·have := ke.set 9 vo'
  simpa [EC, List.setIfInBounds_toArray] using this
 ·exact (l1.kept hg (own_two l1 o1 (by decide))).kept hs (.inr (own_ne l1 (by omega)))
 ·exact (i1.kept hg h.ne).kept hs (.inr (own_ne i1 (by omega)))
 ·rw [List.map_append]
  exact ho.kept hs (.inr (own_ne ho (by omega)))
 ·exact (h1.kept hg (own_two h1 o1 (by decide))).kept hs (.inr (own_ne h1 (by omega)))
 ·exact new_ne i1 (Nat.le_refl _) hat h.ne
 ·exact (own_row (own_base o1 (by omega)) h.b (Nat.le_of_lt h.kr.lt) hg).setCell (p := ⟨g + 1, 9, none⟩) (by show g ≤ g + 1; omega) vo'
theorem RS.has {w0 w w' : World} {g : Nat} {vL vi vo vh vh' : Value} {ps : List (Nat × List Nat)} {mi mo mh : Nat} {b : Bool} {bs : List Bool} (h : RS w0 w g vL vi vo vh ps mi mo mh) (h1 : w.ownsRow (g + 2) 4 1 vh mh (bs.map Value.bool))
  (ho : w'.ownsRow (g + 2) 4 1 vh' (mh + 1) (bs.map Value.bool ++ [.bool b])) (hg : w.grownBy w' vh.ownBlock) :
  RS w0 w' g vL vi vo vh' ps mi mo (mh + 1) ∧ (∀ u l, PA w (g + 2) u vi vo l → PA w' (g + 2) u vi vo l) ∧ ∀ c cs, BK w c cs 118 → BK w' c cs 118 := by
 obtain ⟨xL, l1, l2⟩ := h.l
 obtain ⟨xi, i1⟩ := h.i
 obtain ⟨xo, o1⟩ := h.o
 have PAk : ∀ u l, PA w (g + 2) u vi vo l → PA w' (g + 2) u vi vo l := fun u l p => p.kept hg (own_two p.1 h1 (by decide))
 refine ⟨⟨h.kr.grown hg (own_ne h1 (by omega)), h.ke.grown hg (own_ne h1 (by omega)), ⟨xL, l1.kept hg (own_two l1 h1 (by decide)), l2.map PAk⟩, ⟨xi, i1.kept hg (own_two i1 h1 (by decide))⟩, ⟨xo, o1.kept hg (own_two o1 h1 (by decide))⟩, ⟨bs ++ [b], ?_⟩, h.ne, own_row (own_base h1 (by omega)) h.b (Nat.le_of_lt h.kr.lt) hg⟩, PAk, fun c cs hk => hk.grown hg (own_bk h1 hk (by decide))⟩
 rw [List.map_append]
 exact ho
def FSX (w : World) (v : Value) (qs : List Nat) (X : Nat → Prop) : Prop := (qs = [] ∧ v = .slice none 0 0) ∨ ∃ g c, v = .slice (some ⟨g, 0, none⟩) qs.length c ∧ g < w.heap.size ∧ ¬ X g ∧ ∀ (j q : Nat), qs[j]? = some q → w.cell? ⟨g, j, none⟩ = some (.float .f64 q)
def PtsX (w : World) (v : Value) (ps : List (Nat × List Nat)) (X : Nat → Prop) : Prop := ∃ A c, v = .slice (some ⟨A, 0, none⟩) ps.length c ∧ A < w.heap.size ∧ ¬ X A ∧ ∀ (k : Nat) p, ps[k]? = some p → w.cell? ⟨A, k * 2, none⟩ = some (.float .f64 p.1) ∧ ∃ u, w.cell? ⟨A, k * 2 + 1, none⟩ = some u ∧ FSX w u p.2 X
theorem PtsX.at {w : World} {v : Value} {ps : List (Nat × List Nat)} {X : Nat → Prop} (h : PtsX w v ps X) : PtsAt w v ps := by
 obtain ⟨A, c, h1, h2, -, h3⟩ := h
 refine ⟨A, c, h1, h2, fun k p hk => ?_⟩
 obtain ⟨h4, u, h5, h6⟩ := h3 k p hk
 refine ⟨h4, u, h5, ?_⟩
 rcases h6 with h6 | ⟨g, c', e, h7, -, h8⟩
 ·exact .inl h6
 ·exact .inr ⟨g, c', e, h7, h8⟩
theorem cell_set_other (w : World) {A b : Nat} (j k : Nat) (v : Value) (h : A ≠ b) : (w.setCell ⟨b, k, none⟩ v).cell? ⟨A, j, none⟩ = w.cell? ⟨A, j, none⟩ := by
 have := Below.heap_setCell (w := w) ⟨b, k, none⟩ v A h
 unfold World.cell?
 rw [this]
theorem PtsX.set {w : World} {v : Value} {ps : List (Nat × List Nat)} {X : Nat → Prop} (h : PtsX w v ps X) {b : Nat} (hb : X b) (j : Nat) (u : Value) : PtsX (w.setCell ⟨b, j, none⟩ u) v ps X := by
 obtain ⟨A, c, h1, h2, h0, h3⟩ := h
 have sz : (w.setCell ⟨b, j, none⟩ u).heap.size = w.heap.size := by simp [World.setCell]
 refine ⟨A, c, h1, by rw [sz]; exact h2, h0, fun k p hk => ?_⟩
 obtain ⟨h4, u', h5, h6⟩ := h3 k p hk
 have hA : A ≠ b := fun e => h0 (by rw [e]; exact hb)
 refine ⟨(cell_set_other w _ _ _ hA).trans h4, u', (cell_set_other w _ _ _ hA).trans h5, ?_⟩
 rcases h6 with h6 | ⟨g, c', e, h7, h9, h8⟩
 ·exact .inl h6
 ·exact .inr ⟨g, c', e, by rw [sz]; exact h7, h9, fun i q hq => (cell_set_other w _ _ _ (fun e => h9 (by rw [e]; exact hb))).trans (h8 i q hq)⟩
structure R2 (w0 w : World) (g gi gh n ci ch : Nat) (vL vo : Value) (ps : List (Nat × List Nat)) : Prop where
 kr : BK w g Z10 43
 ke : BK w (g + 1) (EC vL (.slice (some ⟨gi, 0, none⟩) n ci) vo) 43
 i : ∃ xs : List Nat, w.ownsRow (g + 2) 31 1 (.slice (some ⟨gi, 0, none⟩) n ci) n (xs.map fv)
 h : ∃ bs : List Bool, w.ownsRow (g + 2) 4 1 (.slice (some ⟨gh, 0, none⟩) n ch) n (bs.map Value.bool)
 l : PtsX w vL ps (fun b => b < g + 2 ∨ b = gi ∨ b = gh)
 o : SLI vo
 b : Below g w0 w
theorem R2.drewN {w0 w : World} {g gi gh n ci ch : Nat} {vL vo : Value} {ps : List (Nat × List Nat)} (h : R2 w0 w g gi gh n ci ch vL vo ps) (m : Nat) : R2 w0 (w.drewN m) g gi gh n ci ch vL vo ps := ⟨h.kr, h.ke, h.i, h.h, h.l, h.o, Bdn h.b m⟩
theorem R2.ne {w0 w : World} {g gi gh n ci ch : Nat} {vL vo : Value} {ps : List (Nat × List Nat)} (h : R2 w0 w g gi gh n ci ch vL vo ps) : gi ≠ gh ∧ g + 2 ≤ gi ∧ g + 2 ≤ gh := by
 obtain ⟨xs, h1⟩ := h.i
 obtain ⟨bs, h2⟩ := h.h
 refine ⟨fun e => ?_, (h1.lt gi rfl).1, (h2.lt gh rfl).1⟩
 rcases own_two h1 h2 (by decide) with h3 | h3
 ·cases h3
 ·exact h3 (by rw [e]; rfl)
theorem R2.geti {w0 w : World} {g gi gh n ci ch : Nat} {vL vo : Value} {ps : List (Nat × List Nat)} (h : R2 w0 w g gi gh n ci ch vL vo ps) {j : Nat} (hj : j < n) : ∃ x, w.cell? ⟨gi, j, none⟩ = some (.float .f64 x) := by
 obtain ⟨xs, h1⟩ := h.i
 have hl := h1.1
 rw [List.length_map] at hl
 rw [h1.cellAt j (by omega), List.getElem?_map]
 exact ⟨xs[j]'(by omega), by rw [List.getElem?_eq_getElem (by omega)]; rfl⟩
theorem R2.geth {w0 w : World} {g gi gh n ci ch : Nat} {vL vo : Value} {ps : List (Nat × List Nat)} (h : R2 w0 w g gi gh n ci ch vL vo ps) {j : Nat} (hj : j < n) : ∃ b, w.cell? ⟨gh, j, none⟩ = some (.bool b) := by
 obtain ⟨bs, h1⟩ := h.h
 have hl := h1.1
 rw [List.length_map] at hl
 rw [h1.cellAt j (by omega), List.getElem?_map]
 exact ⟨bs[j]'(by omega), by rw [List.getElem?_eq_getElem (by omega)]; rfl⟩
theorem R2.fri {w0 w : World} {g gi gh n ci ch : Nat} {vL vo : Value} {ps : List (Nat × List Nat)} (h : R2 w0 w g gi gh n ci ch vL vo ps) (j : Nat) : w.frozen? ⟨gi, j, none⟩ = false := by
 obtain ⟨xs, h1⟩ := h.i
 exact h1.frozenAt j
theorem R2.frh {w0 w : World} {g gi gh n ci ch : Nat} {vL vo : Value} {ps : List (Nat × List Nat)} (h : R2 w0 w g gi gh n ci ch vL vo ps) (j : Nat) : w.frozen? ⟨gh, j, none⟩ = false := by
 obtain ⟨xs, h1⟩ := h.h
 exact h1.frozenAt j
theorem R2.seti {w0 w : World} {g gi gh n ci ch : Nat} {vL vo : Value} {ps : List (Nat × List Nat)} (h : R2 w0 w g gi gh n ci ch vL vo ps) (j x : Nat) : R2 w0 (w.setCell ⟨gi, j, none⟩ (.float .f64 x)) g gi gh n ci ch vL vo ps := by
 obtain ⟨n1, n2, n3⟩ := h.ne
 obtain ⟨xs, h1⟩ := h.i
 obtain ⟨bs, h2⟩ := h.h
 refine ⟨h.kr.other (by omega) _ _, h.ke.other (by omega) _ _, ⟨xs.set j x, ?_⟩, ⟨bs, h2.kept (grown_setj w gi j _) (.inr fun e => n1 (by injection e with e; exact e.symm))⟩, h.l.set (.inr (.inl rfl)) j _, h.o, h.b.setCell (p := ⟨gi, j, none⟩) (by show g ≤ gi; omega) _⟩
 rw [List.map_set]
 exact (h1.stored j (.float .f64 x)).1
theorem R2.seth {w0 w : World} {g gi gh n ci ch : Nat} {vL vo : Value} {ps : List (Nat × List Nat)} (h : R2 w0 w g gi gh n ci ch vL vo ps) (j : Nat) (x : Bool) : R2 w0 (w.setCell ⟨gh, j, none⟩ (.bool x)) g gi gh n ci ch vL vo ps := by
 obtain ⟨n1, n2, n3⟩ := h.ne
 obtain ⟨xs, h1⟩ := h.i
 obtain ⟨bs, h2⟩ := h.h
 refine ⟨h.kr.other (by omega) _ _, h.ke.other (by omega) _ _, ⟨xs, h1.kept (grown_setj w gh j _) (.inr fun e => n1 (by injection e with e))⟩, ⟨bs.set j x, ?_⟩, h.l.set (.inr (.inr rfl)) j _, h.o, h.b.setCell (p := ⟨gh, j, none⟩) (by show g ≤ gh; omega) _⟩
 rw [List.map_set]
 exact (h2.stored j (.bool x)).1
theorem PA.fsx {w : World} {B gi gh : Nat} {u vo : Value} {n ci ch : Nat} {l : List Nat} {bs : List Value} (h : PA w B u (.slice (some ⟨gi, 0, none⟩) n ci) vo l) (hh : w.ownsRow B 4 1 (.slice (some ⟨gh, 0, none⟩) n ch) n bs) : FSX w u l (fun b => b < B ∨ b = gi ∨ b = gh) := by
 rcases own_len h.1 with ⟨e, h0⟩ | ⟨g, c, rfl⟩
 ·exact .inl ⟨List.eq_nil_of_length_eq_zero h0, e⟩
 ·obtain ⟨l1, l2⟩ := h.1.lt g rfl
  refine .inr ⟨g, c, rfl, l2, ?_, fun j q hq => ?_⟩
  ·rintro (c1 | c1 | c1)
   ·omega
   ·rcases h.2 with e | ⟨e, -⟩
    ·cases e
    ·exact e (by rw [c1]; rfl)
   ·rcases own_two h.1 hh (by decide) with e | e
    ·cases e
    ·exact e (by rw [c1]; rfl)
  ·have hj := (List.getElem?_eq_some_iff.1 hq).1
   rw [h.1.cellAt j (by omega), List.getElem?_map, hq]
   rfl
theorem RS.two {w0 w : World} {g gi gh n ci ch : Nat} {vL vo : Value} {ps : List (Nat × List Nat)} (h : RS w0 w g vL (.slice (some ⟨gi, 0, none⟩) n ci) vo (.slice (some ⟨gh, 0, none⟩) n ch) ps n n n) (hp : 0 < ps.length) : R2 w0 w g gi gh n ci ch vL vo ps := by
 obtain ⟨xL, l1, l2⟩ := h.l
 obtain ⟨xi, i1⟩ := h.i
 obtain ⟨xo, o1⟩ := h.o
 obtain ⟨xh, h1⟩ := h.h
 obtain ⟨A, c, rfl⟩ : ∃ A c, vL = .slice (some ⟨A, 0, none⟩) ps.length c := by
  rcases l1.2 with ⟨-, h0⟩ | ⟨g, cap, _, e, _⟩
  ·omega
  ·exact ⟨g, cap, e⟩
 refine ⟨h.kr, h.ke, ⟨xi, i1⟩, ⟨xh, h1⟩, ⟨A, c, rfl, (l1.lt A rfl).2, ?_, fun k p hk => ?_⟩, ?_, h.b⟩
 ·rintro (c1 | c1 | c1)
  ·have := (l1.lt A rfl).1; omega
  ·rcases own_two l1 i1 (by decide) with e | e
   ·cases e
   ·exact e (by rw [c1]; rfl)
  ·rcases own_two l1 h1 (by decide) with e | e
   ·cases e
   ·exact e (by rw [c1]; rfl)
 ·obtain ⟨a1, u, a2, a3⟩ := l2 k p hk
  have hlt := (List.getElem?_eq_some_iff.1 hk).1
  exact ⟨(l1.cellAt _ (by omega)).trans a1, u, (l1.cellAt _ (by omega)).trans a2, a3.fsx h1⟩
 ·rcases own_len o1 with ⟨e, -⟩ | ⟨a, b, e⟩
  ·rw [e]; exact sli0
  ·exact ⟨_, _, _, e⟩
end Go.Proofs.YtlgencbldbpbdaaGreatDoor
namespace Go.Proofs.YtlgencbldbpbdaaGreatDoor
open Go.RowKit Fl
def RefP (w : World) (R : Option Ez) (e : Ending) (w' : World) : Prop := (match R with
 | none => ∃ v, e = .returned (.tuple #[v, .bool false]) ∧ VZ v
 | some z => ∃ (ps : List (Nat × List Nat)) (L i o : Value), z = .pts ps ∧ e = .returned (.tuple #[.agg #[.int .u8 112, .float .f64 0, .float .f64 0, .float .f64 0, .float .f64 0, .int .i64 0, .string ⟨#[]⟩, L, i, o], .bool true]) ∧ SLI L ∧ SLI i ∧ SLI o ∧ PtsX w' L ps (fun b => b < w.heap.size)) ∧ Below w.heap.size w w'
theorem PtsX.mono {w : World} {v : Value} {ps : List (Nat × List Nat)} {X Y : Nat → Prop} (h : PtsX w v ps X) (hxy : ∀ b, Y b → X b) : PtsX w v ps Y := by
 obtain ⟨A, c, h1, h2, h0, h3⟩ := h
 refine ⟨A, c, h1, h2, fun y => h0 (hxy _ y), fun k p hk => ?_⟩
 obtain ⟨h4, u, h5, h6⟩ := h3 k p hk
 refine ⟨h4, u, h5, ?_⟩
 rcases h6 with h6 | ⟨g, c', e, h7, h9, h8⟩
 ·exact .inl h6
 ·exact .inr ⟨g, c', e, h7, fun y => h9 (hxy _ y), h8⟩
theorem PtsX.set10 {w : World} {v : Value} {ps : List (Nat × List Nat)} {X : Nat → Prop} (h : PtsX w v ps X) {g : Nat} (hg : X g) (v0 v1 v2 v3 v4 v5 v6 v7 v8 v9 : Value) : PtsX ((((((((((w.setCell ⟨g, 0, none⟩ v0).setCell ⟨g, 1, none⟩ v1).setCell ⟨g, 2, none⟩ v2).setCell ⟨g, 3, none⟩ v3).setCell ⟨g, 4, none⟩ v4).setCell ⟨g, 5, none⟩ v5).setCell ⟨g, 6, none⟩ v6).setCell ⟨g, 7, none⟩ v7).setCell ⟨g, 8, none⟩ v8).setCell ⟨g, 9, none⟩ v9) v ps X :=
 (((((((((h.set hg 0 v0).set hg 1 v1).set hg 2 v2).set hg 3 v3).set hg 4 v4).set hg 5 v5).set hg 6 v6).set hg 7 v7).set hg 8 v8).set hg 9 v9
theorem res58 {wf : World} {a : Act} {g : Nat} {b : Bool} {v0 v1 v2 v3 v4 v5 v6 v7 v8 v9 : Value} {Q : Ending → World → Prop} (h2 : a.tmps[2]? = some (.pointer (some ⟨g, 0, none⟩))) (h3 : a.tmps[3]? = some (.bool b)) (hd : a.defers = []) (hk : BK wf g #[v0, v1, v2, v3, v4, v5, v6, v7, v8, v9] 43) (hQ : Q (.returned (.tuple #[.agg #[v0, v1, v2, v3, v4, v5, v6, v7, v8, v9], .bool b])) wf) : bodyPost Tryz.prog Tryz.f58 Q Exit.ret a wf := by
 have z0 := hk.cell 0; have z1 := hk.cell 1; have z2 := hk.cell 2; have z3 := hk.cell 3; have z4 := hk.cell 4; have z5 := hk.cell 5; have z6 := hk.cell 6; have z7 := hk.cell 7; have z8 := hk.cell 8; have z9 := hk.cell 9
 exact bodyPost_ret (v := .tuple #[.agg #[v0, v1, v2, v3, v4, v5, v6, v7, v8, v9], .bool b]) (by simp [results, Tryz.results58, go_sem, h2, h3, z0, z1, z2, z3, z4, z5, z6, z7, z8, z9]) hd hQ
theorem RS.start (w : World) : RS w ((w.alloc (.cells Z10 43)).alloc (.cells (EC (.slice none 0 0) (.slice none 0 0) (.slice none 0 0)) 43)) w.heap.size (.slice none 0 0) (.slice none 0 0) (.slice none 0 0) (.slice none 0 0) [] 0 0 0 :=
 ⟨BK.below (heap_alloc_new w _) ((Below.refl _ _).alloc (Nat.le_refl _) _), by have := heap_alloc_new (w.alloc (.cells Z10 43)) (.cells (EC (.slice none 0 0) (.slice none 0 0) (.slice none 0 0)) 43); unfold BK; rw [← this]; congr 1; simp,
  ⟨[], World.ownsRow_nil _ _ _ _, fun k p h => by cases h⟩, ⟨[], World.ownsRow_nil _ _ _ _⟩, ⟨[], World.ownsRow_nil _ _ _ _⟩, ⟨[], World.ownsRow_nil _ _ _ _⟩, .inl rfl, ((Below.refl _ w).alloc (Nat.le_refl _) _).alloc (by simp) _⟩
theorem fin58 {w0 w : World} {g : Nat} {vL vi vo : Value} {b : Bool} {R : Option Ez} {a : Act} (hg : g = w0.heap.size) (kr : BK w g Z10 43) (hb : Below g w0 w) (h2 : a.tmps[2]? = some (.pointer (some ⟨g, 0, none⟩))) (h3 : a.tmps[3]? = some (.bool b)) (hd : a.defers = [])
  (hR : ∀ wf, wf = ((((((((((w.setCell ⟨g, 0, none⟩ (.int .u8 112)).setCell ⟨g, 1, none⟩ (.float .f64 0)).setCell ⟨g, 2, none⟩ (.float .f64 0)).setCell ⟨g, 3, none⟩ (.float .f64 0)).setCell ⟨g, 4, none⟩ (.float .f64 0)).setCell ⟨g, 5, none⟩ (.int .i64 0)).setCell ⟨g, 6, none⟩ (.string ⟨#[]⟩)).setCell ⟨g, 7, none⟩ vL).setCell ⟨g, 8, none⟩ vi).setCell ⟨g, 9, none⟩ vo) → Below w0.heap.size w0 wf → RefP w0 R (.returned (.tuple #[.agg #[.int .u8 112, .float .f64 0, .float .f64 0, .float .f64 0, .float .f64 0, .int .i64 0, .string ⟨#[]⟩, vL, vi, vo], .bool b])) wf) :
  bodyPost Tryz.prog Tryz.f58 (RefP w0 R) Exit.ret a ((((((((((w.setCell ⟨g, 0, none⟩ (.int .u8 112)).setCell ⟨g, 1, none⟩ (.float .f64 0)).setCell ⟨g, 2, none⟩ (.float .f64 0)).setCell ⟨g, 3, none⟩ (.float .f64 0)).setCell ⟨g, 4, none⟩ (.float .f64 0)).setCell ⟨g, 5, none⟩ (.int .i64 0)).setCell ⟨g, 6, none⟩ (.string ⟨#[]⟩)).setCell ⟨g, 7, none⟩ vL).setCell ⟨g, 8, none⟩ vi).setCell ⟨g, 9, none⟩ vo) := by
 obtain ⟨K1, K2⟩ := set10 kr (.int .u8 112) (.float .f64 0) (.float .f64 0) (.float .f64 0) (.float .f64 0) (.int .i64 0) (.string ⟨#[]⟩) vL vi vo
 exact res58 h2 h3 hd K1 (hR _ rfl (K2 _ _ (Nat.le_of_eq hg.symm) (hg ▸ hb)))
theorem ec_cells {w : World} {g : Nat} {vL vi vo : Value} (h : BK w g (EC vL vi vo) 43) : w.cell? ⟨g, 0, none⟩ = some (.int .u8 112) ∧ w.cell? ⟨g, 1, none⟩ = some (.float .f64 0) ∧ w.cell? ⟨g, 2, none⟩ = some (.float .f64 0) ∧ w.cell? ⟨g, 3, none⟩ = some (.float .f64 0) ∧ w.cell? ⟨g, 4, none⟩ = some (.float .f64 0) ∧ w.cell? ⟨g, 5, none⟩ = some (.int .i64 0) ∧ w.cell? ⟨g, 6, none⟩ = some (.string ⟨#[]⟩) ∧ w.cell? ⟨g, 7, none⟩ = some vL ∧ w.cell? ⟨g, 8, none⟩ = some vi ∧ w.cell? ⟨g, 9, none⟩ = some vo :=
 ⟨h.cell 0, h.cell 1, h.cell 2, h.cell 3, h.cell 4, h.cell 5, h.cell 6, h.cell 7, h.cell 8, h.cell 9⟩
theorem z10_cells {w : World} {g : Nat} (h : BK w g Z10 43) : w.cell? ⟨g, 0, none⟩ = some (.int .u8 0) ∧ w.cell? ⟨g, 1, none⟩ = some (.float .f64 0) ∧ w.cell? ⟨g, 2, none⟩ = some (.float .f64 0) ∧ w.cell? ⟨g, 3, none⟩ = some (.float .f64 0) ∧ w.cell? ⟨g, 4, none⟩ = some (.float .f64 0) ∧ w.cell? ⟨g, 5, none⟩ = some (.int .i64 0) ∧ w.cell? ⟨g, 6, none⟩ = some (.string ⟨#[]⟩) ∧ w.cell? ⟨g, 7, none⟩ = some (.slice none 0 0) ∧ w.cell? ⟨g, 8, none⟩ = some (.slice none 0 0) ∧ w.cell? ⟨g, 9, none⟩ = some (.slice none 0 0) :=
 ⟨h.cell 0, h.cell 1, h.cell 2, h.cell 3, h.cell 4, h.cell 5, h.cell 6, h.cell 7, h.cell 8, h.cell 9⟩
theorem own_sl {w : World} {B e size n : Nat} {v : Value} {xs : List Value} (h : w.ownsRow B e size v n xs) : ∃ a c, v = .slice a n c := by
 rcases h.2 with ⟨e, h2⟩ | ⟨g, cap, _, e, _⟩
 ·exact ⟨none, 0, by rw [e, h2]⟩
 ·exact ⟨_, _, e⟩
theorem RS.forms {w0 w : World} {g : Nat} {vL vi vo vh : Value} {ps : List (Nat × List Nat)} {mi mo mh : Nat} (h : RS w0 w g vL vi vo vh ps mi mo mh) : (∃ a c, vL = .slice a ps.length c) ∧ (∃ a c, vi = .slice a mi c) ∧ (∃ a c, vo = .slice a mo c) ∧ ∃ a c, vh = .slice a mh c := by
 obtain ⟨xL, l1, -⟩ := h.l
 obtain ⟨xi, i1⟩ := h.i
 obtain ⟨xo, o1⟩ := h.o
 obtain ⟨xh, h1⟩ := h.h
 exact ⟨own_sl l1, own_sl i1, own_sl o1, own_sl h1⟩
theorem RS.cell {w0 w : World} {g : Nat} {vL vi vo vh : Value} {ps : List (Nat × List Nat)} {mi mo mh : Nat} (h : RS w0 w g vL vi vo vh ps mi mo mh) (v : Array Value) (w1 : World) (hb : Below w.heap.size w w1) : RS w0 (w1.alloc (.cells v 118)) g vL vi vo vh ps mi mo mh :=
 h.below (hb.trans (((Below.refl _ _).alloc (Nat.le_refl _) _).mono hb.size))
theorem RS.fresh {w0 w w3 : World} {g : Nat} {vL vi vo vh u : Value} {ps : List (Nat × List Nat)} {mi mo mh : Nat} {l : List Nat} (h : RS w0 w g vL vi vo vh ps mi mo mh) (hu : w3.ownsRow w.heap.size 31 1 u l.length (l.map fv)) : PA w3 (g + 2) u vi vo l := by
 obtain ⟨xi, i1⟩ := h.i
 obtain ⟨xo, o1⟩ := h.o
 have hk := h.ke.lt
 refine ⟨own_base hu (by omega), ?_⟩
 cases hb : u.ownBlock with
 | none => exact .inl rfl
 | some k =>
   have h1 := (hu.lt k hb).1
   refine .inr ⟨fun e => ?_, fun e => ?_⟩
   ·have := (i1.lt k e.symm).2; omega
   ·have := (o1.lt k e.symm).2; omega
theorem RS.cellNe {w0 w : World} {g c : Nat} {vL vi vo vh : Value} {ps : List (Nat × List Nat)} {mi mo mh : Nat} (h : RS w0 w g vL vi vo vh ps mi mo mh) (hc : w.heap.size ≤ c) : c ≠ g + 1 ∧ vL.ownBlock ≠ some c := by
 obtain ⟨xL, l1, -⟩ := h.l
 have hk := h.ke.lt
 exact ⟨by omega, fun e => by have := (l1.lt c e).2; omega⟩
theorem pts_mx {d : Nat} {M : Nat} (hM : M = if 1 ≤ d then d else 1) : max (1 : Int) (d : Int) = (M : Int) := by
 rw [hM]
 by_cases h : 1 ≤ d
 ·rw [if_pos h]; omega
 ·rw [if_neg h]; omega
theorem row_facts {d k fn j m e : Nat} (hd : d = k - fn - 1 ∧ fn < k ∧ k ≤ m) (hk : k < m) (hj : j ≤ d) (me : m = e + 1 ∧ 1 ≤ e ∧ e ≤ 1000) :
  (fn : Int) < (m : Int) ∧ wrap64 ((d : Int) + 1) = ((d + 1 : Nat) : Int) ∧ wrap64 ((fn : Int) + (j : Int)) = ((fn + j : Nat) : Int) ∧ ((fn + j : Nat) : Int) < (m : Int) ∧ fn < m ∧ fn + j < m ∧ j < d + 1 ∧ d + 1 ≤ 2001 := by
 obtain ⟨h1, h2, h3⟩ := hd
 obtain ⟨h4, h5, h6⟩ := me
 refine ⟨by omega, ?_, ?_, by omega, by omega, by omega, by omega, by omega⟩
 ·unfold wrap64; omega
 ·unfold wrap64; omega
theorem wrap_rg {f j q : Nat} (h : q = f + j) (hq : (q : Int) < 2001) : IntKind.i64.wrap ((f : Int) + (j : Int)) = (q : Int) := by
 rw [IntKind.wrap_i64]; omega
theorem row_gap {d k fn m e : Nat} (hd : d = k - fn - 1) (hk : fn < k ∧ k ≤ m) (me : m = e + 1 ∧ 1 ≤ e ∧ e ≤ 1000) : wrap64 (wrap64 ((k : Int) - (fn : Int)) - 1) = (d : Int) := by
 obtain ⟨h1, h2⟩ := hk
 obtain ⟨h4, h5, h6⟩ := me
 unfold wrap64; omega
set_option maxRecDepth 100000 in
set_option maxHeartbeats 4000000 in
theorem k58 (A : Nat) (xs : List ByteArray) (c : Nat) (w : World) (hw : LS w A xs) (hs : ∀ x ∈ xs, x.size ≤ 2000) (hl : xs.length ≤ 100000) : Calls Tryz.prog 58 #[.slice (some ⟨A, 0, none⟩) xs.length c] w fun e w' => RefP w (ptsF (xs.map bl)) e w' := by
 obtain ⟨R, hR⟩ : ∃ R, R = ptsF (xs.map bl) := ⟨_, rfl⟩
 rw [← hR]
 have HR := Lib.hid hR
 have HW := Lib.hid (And.intro hw hs)
 obtain ⟨n, hn⟩ : ∃ n, n = xs.length := ⟨_, rfl⟩
 rw [← hn] at hl ⊢
 have HN := Lib.hid hn
 obtain ⟨g, hg⟩ : ∃ g, g = w.heap.size := ⟨_, rfl⟩
 have HG := Lib.hid hg
 have S0 := Lib.hid (RS.start w)
 clear hw hs hR hn
 have hsf := fun (a : Addr) (x : Nat) (m : Mode) (W : World) => (show (store a (.float .f64 x) m).run Tryz.prog W = stored Tryz.prog W a (.float .f64 x) m from run_store Tryz.prog W a _ m rfl)
 go_enter Tryz.func58, Tryz.ntmps58
 go_upto_region 2 with fail
 refine wp_genY (fun wx => RS w wx w.heap.size (.slice none 0 0) (.slice none 0 0) (.slice none 0 0) (.slice none 0 0) [] 0 0 0) S0.out ?_
 intro wx SMx
 rw [← hg] at SMx ⊢
 have H := Lib.hid SMx
 clear S0 SMx hg
 by_cases h2 : n < 2 ∨ 100 < n
 ·have e1 : Hid (R = none) := Lib.hid (by rw [HR.out]; unfold ptsF; rw [if_pos (by rw [List.length_map, ← HN.out]; exact h2)])
  have hc : (n : Int) < 2 ∨ (n : Int) > 100 := by omega
  obtain ⟨z0, z1, z2, z3, z4, z5, z6, z7, z8, z9⟩ := ec_cells H.out.ke
  have zf := fun j => H.out.kr.frozen j
  obtain ⟨y0, y1, y2, y3, y4, y5, y6, y7, y8, y9⟩ := z10_cells H.out.kr
  have FIN := Lib.hid (fun (a : Act) h2 h3 hd => fin58 (vL := .slice none 0 0) (vi := .slice none 0 0) (vo := .slice none 0 0) (b := false) (R := R) (a := a) HG.out H.out.kr H.out.b h2 h3 hd (fun wf _ hB => by rw [e1.out]; exact ⟨⟨_, rfl, vz_mk sli0 sli0 sli0⟩, hB⟩))
  clear h2
  by_cases h3 : (n : Int) < 2
  ·clear hc
   go_wp2_with fail
   refine FIN.out _ ?_ ?_ ?_ <;> rfl
  ·have h4 : (n : Int) > 100 := by omega
   clear hc
   go_wp2_with fail
   refine FIN.out _ ?_ ?_ ?_ <;> rfl
 have n2 : 2 ≤ n := by omega
 have n100 : n ≤ 100 := by omega
 have hc1 : ¬ (n : Int) < 2 := by omega
 have hc2 : ¬ (n : Int) > 100 := by omega
 have R2 : Hid (R = ((xs.map bl).mapM ptF).map .pts) := Lib.hid (by rw [HR.out]; unfold ptsF; rw [if_neg (by rw [List.length_map, ← HN.out]; exact h2)])
 have NN := Lib.hid (And.intro n2 n100)
 clear h2 hl HR n2 n100
 go_wp2_with fail
 go_loopw [5, 6] (fun hv i wy => ∃ (k m : Nat) (ps : List (Nat × List Nat)) (vL vi vo : Value), i = .int .i64 k ∧ Hid (k ≤ n ∧ ((xs.map bl).take k).mapM ptF = some ps ∧ ps.length = k ∧ k ≤ m ∧ m ≤ 2 * k) ∧ Hid (RS w wy g vL vi vo hv ps m m m)) (fun _ i _ => n - (Lib.intOf i).toNat)
 case atStart => exact ⟨0, 0, [], _, _, _, rfl, Lib.hid ⟨Nat.zero_le _, rfl, rfl, Nat.le_refl _, Nat.le_refl _⟩, H⟩
 case round =>
  clear H
  obtain ⟨k, m, ps, vL, vi, vo, rfl, hP, hS⟩ := hrel
  obtain ⟨⟨aL, cL, rfl⟩, ⟨ai, ci, rfl⟩, ⟨ao, co, rfl⟩, ⟨ah, ch, rfl⟩⟩ := hS.out.forms
  by_cases hlt : k < n
  ·have hki : (k : Int) < (n : Int) := by omega
   have k0 : (0 : Int) ≤ (k : Int) := Int.natCast_nonneg k
   obtain ⟨x, hx⟩ : ∃ x, xs[k]? = some x := ⟨xs[k]'(by have := HN.out; omega), List.getElem?_eq_getElem _⟩
   have BW : Hid (Below w.heap.size w wr) := Lib.hid (by have := hS.out.b; rwa [HG.out] at this)
   have kc := (HW.out.1.below BW.out).2 k x hx
   have HX := Lib.hid (And.intro hx hlt)
   have C := Lib.hid (fun (w1 : World) => k102 x w1 (HW.out.2 x (List.mem_of_getElem? hx)))
   clear hx hlt
   cases hpt : ptF (bl x) with
   | none =>
     rw [hpt] at C
     have e1 : Hid (R = none) := Lib.hid (by rw [R2.out, mapM_noneG (l := xs.map bl) (k := k) (x := bl x) (by rw [List.getElem?_map, HX.out.1]; rfl) hpt]; rfl)
     clear hpt
     go_upto_region 9 with (go_at_call 102; refine (C.out _).mono ?_; rintro e w3 ⟨⟨q0, u0, m0, c0, rfl⟩, hb⟩; have B3 := Lib.hid hb; clear hb)
     have H4 := Lib.hid (hS.out.cell #[.float .f64 q0, .slice u0 m0 c0] w3 B3.out)
     obtain ⟨z0, z1, z2, z3, z4, z5, z6, z7, z8, z9⟩ := ec_cells H4.out.ke
     have zf := fun j => H4.out.kr.frozen j
     obtain ⟨y0, y1, y2, y3, y4, y5, y6, y7, y8, y9⟩ := z10_cells H4.out.kr
     have FIN := Lib.hid (fun (a : Act) h2 h3 hd => fin58 (vL := .slice aL ps.length cL) (vi := .slice ai m ci) (vo := .slice ao m co) (b := false) (R := R) (a := a) HG.out H4.out.kr H4.out.b h2 h3 hd (fun wf _ hB => by rw [e1.out]; exact ⟨⟨_, rfl, vz_mk ⟨_, _, _, rfl⟩ ⟨_, _, _, rfl⟩ ⟨_, _, _, rfl⟩⟩, hB⟩))
     clear kc
     go_wp2_with fail
     refine FIN.out _ ?_ ?_ ?_ <;> rfl
   | some p =>
     obtain ⟨q, l⟩ := p
     rw [hpt] at C
     have HPT := Lib.hid hpt
     clear hpt
     go_upto_region 9 with (go_at_call 102; refine (C.out _).mono ?_; rintro e w3 ⟨⟨u0, rfl, hu⟩, hb⟩; have B3 := Lib.hid hb; have HU := Lib.hid (hS.out.fresh hu); obtain ⟨⟨pa, pc, rfl⟩, -⟩ := And.intro (own_sl hu) trivial; clear hb hu)
     obtain ⟨d, hd⟩ : ∃ d, d = l.length := ⟨_, rfl⟩
     obtain ⟨c7, hc7⟩ : ∃ c7, c7 = w3.heap.size := ⟨_, rfl⟩
     have H4 := Lib.hid (hS.out.cell #[.float .f64 q, .slice pa l.length pc] w3 B3.out)
     have P4 := Lib.hid (HU.out.below (Below.alloc (Below.refl _ w3) (Nat.le_refl _) (.cells #[.float .f64 q, .slice pa l.length pc] 118)))
     have K4 : Hid (BK (w3.alloc (.cells #[.float .f64 q, .slice pa l.length pc] 118)) w3.heap.size #[.float .f64 q, .slice pa l.length pc] 118) := Lib.hid (heap_alloc_new w3 _)
     have N4 := Lib.hid (hS.out.cellNe B3.out.size)
     rw [← hd] at H4 P4 K4 ⊢
     rw [← hc7] at K4 N4 ⊢
     have HD := Lib.hid hd
     clear hd hc7 kc C HU B3 hS
     refine wp_genY (fun wy => RS w wy g (.slice aL ps.length cL) (.slice ai m ci) (.slice ao m co) (.slice ah m ch) ps m m m ∧ PA wy (g + 2) (.slice pa d pc) (.slice ai m ci) (.slice ao m co) l ∧ BK wy c7 #[.float .f64 q, .slice pa d pc] 118) ⟨H4.out, P4.out, K4.out⟩ ?_
     intro w4 SM4
     have H5 := Lib.hid SM4
     clear H4 P4 K4 SM4
     obtain ⟨xL, l1, l2⟩ := H5.out.1.l
     obtain ⟨-, -, -, -, -, -, -, z7, -⟩ := ec_cells H5.out.1.ke
     have z0 : w4.cell? ⟨c7, 0, none⟩ = some (.float .f64 q) := H5.out.2.2.cell 0
     have z1 : w4.cell? ⟨c7, 1, none⟩ = some (.slice pa d pc) := H5.out.2.2.cell 1
     have HL := Lib.hid (And.intro l1 l2)
     clear l1 l2
     go_wp2_with (at_builtin; refine app_at rfl _ _ 41 118 rfl (.agg #[.float .f64 0, .slice none 0 0]) 2 32 Tryz.underlying41 (by kernel_rfl) rfl (by decide) (g + 2) _ _ _ rfl HL.out.1 #[.float .f64 q, .slice pa d pc] rfl ?c1 rfl ?c2 ?c3 ?c4 ?_)
     case c1 => first | exact ⟨rfl, rfl⟩ | (intro u hu; simp at hu; rcases hu with rfl | rfl <;> rfl)
     case c2 => have h1 := hP.out; have h2 := HX.out.2; have h3 := NN.out; omega
     case c3 => have h1 := hP.out; have h2 := HX.out.2; have h3 := NN.out; omega
     case c4 => have := H5.out.1.ke.lt; omega
     intro v8 w8 hown hg8 hat
     obtain ⟨a8, c8, rfl⟩ := own_sl hown
     have K8 := Lib.hid (H5.out.1.ke.grown hg8 (own_ne HL.out.1 (by omega)))
     obtain ⟨-, -, -, -, -, -, -, k8, -⟩ := ec_cells K8.out
     have f8 := K8.out.frozen 7
     have SP := Lib.hid (RS.point H5.out.1 HL.out.1 HL.out.2 H5.out.2.1 hown hg8)
     have K7 : Hid (BK (w8.setCell ⟨g + 1, 7, none⟩ (.slice a8 (ps.length + 1) c8)) c7 #[.float .f64 q, .slice pa d pc] 118) := Lib.hid ((H5.out.2.2.grown hg8 N4.out.2).other N4.out.1 _ _)
     obtain ⟨M, hM⟩ : ∃ M, M = if 1 ≤ d then d else 1 := ⟨_, rfl⟩
     have mx := pts_mx hM
     have HM : Hid (d ≤ M ∧ 1 ≤ M ∧ M ≤ 2) := Lib.hid (by
      have h1 := (ptF_OP HPT.out).2.1
      have h2 := HD.out
      have h3 : l.length ≤ 2 := h1
      rw [hM]
      by_cases c : 1 ≤ d
      ·rw [if_pos c]; omega
      ·rw [if_neg c]; omega)
     clear hown hg8 hat z0 z1 z7 HL H5 K8 hM
     go_wp2_with fail
     refine wp_genY (fun wy => RS w wy g (.slice a8 (ps.length + 1) c8) (.slice ai m ci) (.slice ao m co) (.slice ah m ch) (ps ++ [(q, l)]) m m m ∧ PA wy (g + 2) (.slice pa d pc) (.slice ai m ci) (.slice ao m co) l ∧ BK wy c7 #[.float .f64 q, .slice pa d pc] 118) ⟨SP.out.1, SP.out.2, K7.out⟩ ?_
     intro w9 SM9
     have H9 := Lib.hid SM9
     clear SP K7 SM9 k8 f8
     go_loopw [5, 9] (fun hv i wy => ∃ (j : Nat) (vi vo : Value), i = .int .i64 j ∧ Hid (j ≤ M) ∧ Hid (RS w wy g (.slice a8 (ps.length + 1) c8) vi vo hv (ps ++ [(q, l)]) (m + j) (m + j) (m + j) ∧ PA wy (g + 2) (.slice pa d pc) vi vo l ∧ BK wy c7 #[.float .f64 q, .slice pa d pc] 118)) (fun _ i _ => M - (Lib.intOf i).toNat)
     case atStart => exact ⟨0, _, _, rfl, Lib.hid (Nat.zero_le _), H9⟩
     case round =>
      clear H9
      obtain ⟨j, vi, vo, rfl, hJ, hT⟩ := hrel
      obtain ⟨-, ⟨ai', ci', rfl⟩, ⟨ao', co', rfl⟩, ⟨ah', ch', rfl⟩⟩ := hT.out.1.forms
      by_cases hj : j < M
      ·have hji : (j : Int) < (M : Int) := by omega
       have j0 : (0 : Int) ≤ (j : Int) := Int.natCast_nonneg j
       have z1 := hT.out.2.2.cell 1
       have HJ := Lib.hid hj
       clear hj
       go_upto_if 66 with fail
       go_cut [10] (fun inv wy => ∃ x, inv = .float .f64 x ∧ Hid (RS w wy g (.slice a8 (ps.length + 1) c8) (.slice ai' (m + j) ci') (.slice ao' (m + j) co') (.slice ah' (m + j) ch') (ps ++ [(q, l)]) (m + j) (m + j) (m + j) ∧ PA wy (g + 2) (.slice pa d pc) (.slice ai' (m + j) ci') (.slice ao' (m + j) co') l ∧ BK wy c7 #[.float .f64 q, .slice pa d pc] 118))
       case first =>
        by_cases hjd : j < d
        ·have hjdi : (j : Int) < (d : Int) := by omega
         obtain ⟨gp, cap, e, -, -, -, kcs⟩ := own_cells hT.out.2.1.1 (by have := HD.out; omega)
         injection e with e1 e2 e3
         subst e1
         have hl : j < l.length := by have := HD.out; omega
         have kq := kcs j (fv l[j]) (by rw [List.getElem?_map, List.getElem?_eq_getElem hl]; rfl)
         unfold fv at kq
         obtain ⟨FQ, NQ, fQ, -⟩ := opq .quo rfl
         obtain ⟨lj, hlj⟩ : ∃ x, x = l[j] := ⟨_, rfl⟩
         rw [← hlj] at kq
         have PD := Lib.hid (fun (N : Nat) => Bdn (Below.refl wr.heap.size wr) N)
         clear kcs e2 e3 hl hlj hjd
         go_wp2_with fail
         go_meet
         exact ⟨_, rfl, Lib.hid ⟨hT.out.1.drewN _, hT.out.2.1.below (PD.out _), hT.out.2.2.below (PD.out _)⟩⟩
        ·have hjdi : ¬ (j : Int) < (d : Int) := by omega
         clear hjd
         go_wp2_with fail
         go_meet
         exact ⟨_, rfl, hT⟩
       case rest =>
        obtain ⟨xx, rfl, hC⟩ := hcut
        clear hT z1
        obtain ⟨-, -, -, -, -, -, -, -, z8, -⟩ := ec_cells hC.out.1.ke
        obtain ⟨xi, i1⟩ := hC.out.1.i
        have I1 := Lib.hid i1
        have SZ : Hid (m + j ≤ 1000) := Lib.hid (by have h1 := hP.out; have h2 := HX.out.2; have h3 := NN.out; have h4 := HM.out; have := HJ.out; omega)
        clear i1
        go_wp2_with (at_builtin; refine app_at rfl _ _ 22 31 rfl (.float .f64 0) 1 8 Tryz.underlying22 (by kernel_rfl) rfl (by decide) (g + 2) _ _ _ rfl I1.out #[.float .f64 xx] rfl ?c1 rfl ?c2 ?c3 ?c4 ?_)
        case c1 => first | rfl | (intro u hu; simp at hu; subst hu; rfl)
        case c2 => have := SZ.out; omega
        case c3 => have := SZ.out; omega
        case c4 => have := hC.out.1.ke.lt; omega
        intro v10 w10 hown hg10 hat
        obtain ⟨a10, c10, rfl⟩ := own_sl hown
        have K10 := Lib.hid (hC.out.1.ke.grown hg10 (own_ne I1.out (by omega)))
        obtain ⟨-, -, -, -, -, -, -, -, k10, -⟩ := ec_cells K10.out
        have f10 := K10.out.frozen 8
        have SI := Lib.hid (RS.inn (x := xx) hC.out.1 I1.out hown hg10 hat)
        have SI2 := Lib.hid (And.intro (SI.out.2.1 _ _ hC.out.2.1) (SI.out.2.2 c7 _ N4.out.1 hC.out.2.2))
        clear hown hg10 hat z8 K10 hC I1
        go_upto_region 19 with fail
        refine wp_genY (fun wy => RS w wy g (.slice a8 (ps.length + 1) c8) (.slice a10 (m + j + 1) c10) (.slice ao' (m + j) co') (.slice ah' (m + j) ch') (ps ++ [(q, l)]) (m + j + 1) (m + j) (m + j) ∧ PA wy (g + 2) (.slice pa d pc) (.slice a10 (m + j + 1) c10) (.slice ao' (m + j) co') l ∧ BK wy c7 #[.float .f64 q, .slice pa d pc] 118) ⟨SI.out.1, SI2.out.1, SI2.out.2⟩ ?_
        intro w11 SM11
        have H11 := Lib.hid SM11
        clear SI SI2 SM11 k10 f10
        obtain ⟨-, -, -, -, -, -, -, -, -, z9⟩ := ec_cells H11.out.1.ke
        have y0 : w11.cell? ⟨c7, 0, none⟩ = some (.float .f64 q) := H11.out.2.2.cell 0
        obtain ⟨xo, o1⟩ := H11.out.1.o
        have O1 := Lib.hid o1
        clear o1
        go_wp2_with (at_builtin; refine app_at rfl _ _ 22 31 rfl (.float .f64 0) 1 8 Tryz.underlying22 (by kernel_rfl) rfl (by decide) (g + 2) _ _ _ rfl O1.out #[.float .f64 q] rfl ?c1 rfl ?c2 ?c3 ?c4 ?_)
        case c1 => first | rfl | (intro u hu; simp at hu; subst hu; rfl)
        case c2 => have := SZ.out; omega
        case c3 => have := SZ.out; omega
        case c4 => have := H11.out.1.ke.lt; omega
        intro v12 w12 hown hg12 hat
        obtain ⟨a12, c12, rfl⟩ := own_sl hown
        have K12 := Lib.hid (H11.out.1.ke.grown hg12 (own_ne O1.out (by omega)))
        obtain ⟨-, -, -, -, -, -, -, -, -, k12⟩ := ec_cells K12.out
        have f12 := K12.out.frozen 9
        have SI := Lib.hid (RS.out (x := q) H11.out.1 O1.out hown hg12 hat)
        have SI2 := Lib.hid (And.intro (SI.out.2.1 _ _ H11.out.2.1) (SI.out.2.2 c7 _ N4.out.1 H11.out.2.2))
        clear hown hg12 hat z9 y0 K12 H11 O1
        go_upto_region 20 with fail
        refine wp_genY (fun wy => RS w wy g (.slice a8 (ps.length + 1) c8) (.slice a10 (m + j + 1) c10) (.slice a12 (m + j + 1) c12) (.slice ah' (m + j) ch') (ps ++ [(q, l)]) (m + j + 1) (m + j + 1) (m + j) ∧ PA wy (g + 2) (.slice pa d pc) (.slice a10 (m + j + 1) c10) (.slice a12 (m + j + 1) c12) l ∧ BK wy c7 #[.float .f64 q, .slice pa d pc] 118) ⟨SI.out.1, SI2.out.1, SI2.out.2⟩ ?_
        intro w13 SM13
        have H13 := Lib.hid SM13
        clear SI SI2 SM13 k12 f12
        have y1 : w13.cell? ⟨c7, 1, none⟩ = some (.slice pa d pc) := H13.out.2.2.cell 1
        obtain ⟨xh, h1⟩ := H13.out.1.h
        have B1 := Lib.hid h1
        clear h1
        go_wp2_with (at_builtin; refine app_at rfl _ _ 161 4 rfl (.bool false) 1 1 Tryz.underlying161 (by kernel_rfl) rfl (by decide) (g + 2) _ _ _ rfl B1.out #[.bool _] rfl ?c1 rfl ?c2 ?c3 ?c4 ?_)
        case c1 => first | rfl | (intro u hu; simp at hu; subst hu; rfl)
        case c2 => have := SZ.out; omega
        case c3 => have := SZ.out; omega
        case c4 => have := H13.out.1.ke.lt; omega
        intro v14 w14 hown hg14 hat
        have SI := Lib.hid (RS.has H13.out.1 B1.out hown hg14)
        have SI2 := Lib.hid (And.intro (SI.out.2.1 _ _ H13.out.2.1) (SI.out.2.2 c7 _ H13.out.2.2))
        clear hown hg14 hat y1 H13 B1
        go_wp2
        go_roundw
        case rel => exact ⟨j + 1, _, _, by first | rw [wrap_next HJ.out (by have := HM.out; omega)] | rfl, Lib.hid HJ.out, Lib.hid ⟨SI.out.1, SI2.out.1, SI2.out.2⟩⟩
        case measure =>
         first
          | exact meas_next HJ.out
          | (rw [wrap_next HJ.out (by have := HM.out; omega)]; exact meas_next HJ.out)
      ·have hji : ¬ (j : Int) < (M : Int) := by omega
       have z1 := hT.out.2.2.cell 1
       have E2 : Hid (k + 1 ≤ n ∧ ((xs.map bl).take (k + 1)).mapM ptF = some (ps ++ [(q, l)]) ∧ (ps ++ [(q, l)]).length = k + 1 ∧ k + 1 ≤ m + j ∧ m + j ≤ 2 * (k + 1)) := Lib.hid (by
        obtain ⟨p1, p2, p3, p4, p5⟩ := hP.out
        have h4 := HM.out
        have h5 := hJ.out
        refine ⟨HX.out.2, mapM_take (x := bl x) (by rw [List.getElem?_map, HX.out.1]; rfl) p2 HPT.out, by rw [List.length_append, p3]; rfl, by omega, by omega⟩)
       clear hj
       go_wp2_with fail
       go_roundw
       case rel => exact ⟨k + 1, m + j, _, _, _, _, by first | rw [wrap_next HX.out.2 (by have := NN.out.2; omega)] | rfl, E2, Lib.hid hT.out.1⟩
       case measure =>
        first
         | exact meas_next HX.out.2
         | (rw [wrap_next HX.out.2 (by have := NN.out.2; omega)]; exact meas_next HX.out.2)
  ·have hki : ¬ (k : Int) < (n : Int) := by omega
   obtain ⟨p1, p2, p3, p4, p5⟩ := hP.out
   obtain ⟨e, he⟩ : ∃ e, e = m - 1 := ⟨_, rfl⟩
   have e1 : Hid (R = some (.pts ps)) := Lib.hid (by
    rw [R2.out]
    rw [List.take_of_length_le (by rw [List.length_map, ← HN.out]; omega)] at p2
    rw [p2]
    rfl)
   have n1 := NN.out
   obtain ⟨xi, i1⟩ := hS.out.i
   obtain ⟨xh, h1⟩ := hS.out.h
   obtain ⟨gi, ci2, ei, -⟩ := own_cells i1 (by omega)
   obtain ⟨gh, ch2, eh, -⟩ := own_cells h1 (by omega)
   injection ei with a1 a2 a3
   injection eh with b1 b2 b3
   subst a1; subst a3; subst b1; subst b3
   have H := Lib.hid (hS.out.two (by omega))
   have ME : Hid (m = e + 1 ∧ 1 ≤ e ∧ e ≤ 1000) := Lib.hid ⟨by omega, by omega, by omega⟩
   have hme : wrap64 ((m : Int) - 1) = (e : Int) := by unfold wrap64; omega
   have c0 : (0 : Int) < (m : Int) := by omega
   have c1 : (e : Int) < (m : Int) := by omega
   have c2 : (0 : Int) ≤ (e : Int) := by omega
   obtain ⟨-, -, -, -, -, -, -, -, z8, -⟩ := ec_cells H.out.ke
   obtain ⟨b, zh⟩ := H.out.geth (j := 0) (by omega)
   have zi := fun j => H.out.fri j
   have zj := fun j => H.out.frh j
   obtain ⟨x0, zx⟩ := H.out.geti (j := 0) (by omega)
   clear p1 p2 p3 p4 p5 hP hS i1 h1 a2 b2 n1 hlt he R2
   go_upto_region 22 with fail
   rw [hme]
   clear hme
   go_upto_if 101 with fail
   go_cut [] (fun wy => Hid (R2 w wy g gi gh m ci ch (.slice aL ps.length cL) (.slice ao m co) ps))
   case first =>
    cases b
    ·go_upto_region 24 with fail
     refine wp_genY (fun wy => R2 w wy g gi gh m ci ch (.slice aL ps.length cL) (.slice ao m co) ps) (H.out.seti 0 0) ?_
     intro wy SMy
     have H3 := Lib.hid SMy
     clear SMy zh zi zj zx z8 H
     obtain ⟨b3, zh⟩ := H3.out.geth (j := 0) (by have := ME.out; omega)
     have zj := fun j => H3.out.frh j
     go_wp2_with fail
     go_meet
     exact Lib.hid (H3.out.seth 0 true)
    ·go_wp2_with fail
     go_meet
     exact H
   case rest =>
    have G1 := hcut
    clear hcut H zh zi zj zx z8
    obtain ⟨-, -, -, -, -, -, -, -, z8, -⟩ := ec_cells G1.out.ke
    obtain ⟨b2, zh⟩ := G1.out.geth (j := e) (by have := ME.out; omega)
    have zi := fun j => G1.out.fri j
    have zj := fun j => G1.out.frh j
    obtain ⟨x1, zx⟩ := G1.out.geti (j := e) (by have := ME.out; omega)
    go_upto_if 111 with fail
    go_cut [] (fun wy => Hid (R2 w wy g gi gh m ci ch (.slice aL ps.length cL) (.slice ao m co) ps))
    case first =>
     cases b2
     ·go_upto_region 27 with fail
      refine wp_genY (fun wy => R2 w wy g gi gh m ci ch (.slice aL ps.length cL) (.slice ao m co) ps) (G1.out.seti e 4607182418800017408) ?_
      intro wy SMy
      have H3 := Lib.hid SMy
      clear SMy zh zi zj zx z8 G1
      obtain ⟨b3, zh⟩ := H3.out.geth (j := e) (by have := ME.out; omega)
      have zj := fun j => H3.out.frh j
      go_wp2_with fail
      go_meet
      exact Lib.hid (H3.out.seth e true)
     ·go_wp2_with fail
      go_meet
      exact G1
    case rest =>
     have G2 := hcut
     clear hcut G1 zh zi zj zx z8
     obtain ⟨-, -, -, -, -, -, -, -, z8, -⟩ := ec_cells G2.out.ke
     obtain ⟨x4, zx⟩ := G2.out.geti (j := 0) (by have := ME.out; omega)
     go_wp2_with fail
     go_loopw [12, 13] (fun mo i wy => ∃ q k : Nat, mo = .float .f64 q ∧ i = .int .i64 k ∧ Hid (k ≤ m) ∧ Hid (R2 w wy g gi gh m ci ch (.slice aL ps.length cL) (.slice ao m co) ps)) (fun _ i _ => m - (Lib.intOf i).toNat)
     case atStart => exact ⟨_, 0, rfl, rfl, Lib.hid (Nat.zero_le _), G2⟩
     case round =>
      clear G2 zx z8
      obtain ⟨q, k, rfl, rfl, hk, hS⟩ := hrel
      by_cases hlt : k < m
      ·have hki : (k : Int) ≤ (e : Int) := by have := ME.out; omega
       have k0 : (0 : Int) ≤ (k : Int) := Int.natCast_nonneg k
       have km : (k : Int) < (m : Int) := by omega
       obtain ⟨-, -, -, -, -, -, -, -, z8, -⟩ := ec_cells hS.out.ke
       obtain ⟨b5, zh⟩ := hS.out.geth hlt
       obtain ⟨x5, zx⟩ := hS.out.geti hlt
       have zi := fun j => hS.out.fri j
       obtain ⟨lb, hlb⟩ : ∃ lb, (FloatKind.f64.format.order x5 q == some Ordering.lt) = lb := ⟨_, rfl⟩
       have HK := Lib.hid hlt
       clear hlt
       cases b5
       ·clear hlb zx z8 zi
        go_wp2_with fail
        go_roundw
        case rel => exact ⟨_, k + 1, rfl, by first | rw [wrap_next HK.out (by have := ME.out; omega)] | rfl, Lib.hid HK.out, hS⟩
        case measure =>
         first
          | exact meas_next HK.out
          | (rw [wrap_next HK.out (by have := ME.out; omega)]; exact meas_next HK.out)
       cases lb
       ·clear zi
        go_wp2_with fail
        go_roundw
        case rel => exact ⟨_, k + 1, rfl, by first | rw [wrap_next HK.out (by have := ME.out; omega)] | rfl, Lib.hid HK.out, hS⟩
        case measure =>
         first
          | exact meas_next HK.out
          | (rw [wrap_next HK.out (by have := ME.out; omega)]; exact meas_next HK.out)
       ·go_upto_region 34 with fail
        refine wp_genY (fun wy => R2 w wy g gi gh m ci ch (.slice aL ps.length cL) (.slice ao m co) ps ∧ wy.cell? ⟨gh, k, none⟩ = some (.bool true)) ⟨hS.out.seti k q, (cell_set_other _ _ _ _ (Ne.symm hS.out.ne.1)).trans zh⟩ ?_
        intro wy SMy
        have G3 := Lib.hid SMy.1
        have zh' := SMy.2
        clear SMy hS zh zi zx z8 hlb
        obtain ⟨-, -, -, -, -, -, -, -, z8, -⟩ := ec_cells G3.out.ke
        obtain ⟨x6, zx⟩ := G3.out.geti HK.out
        go_wp2_with fail
        go_roundw
        case rel => exact ⟨_, k + 1, rfl, by first | rw [wrap_next HK.out (by have := ME.out; omega)] | rfl, Lib.hid HK.out, G3⟩
        case measure =>
         first
          | exact meas_next HK.out
          | (rw [wrap_next HK.out (by have := ME.out; omega)]; exact meas_next HK.out)
      ·have hki : ¬ (k : Int) ≤ (e : Int) := by have := ME.out; omega
       clear hlt hk
       go_wp2_with fail
       go_loopw [14, 15] (fun f i wy => ∃ fn k : Nat, f = .int .i64 fn ∧ i = .int .i64 k ∧ Hid (fn < k ∧ k ≤ m) ∧ Hid (R2 w wy g gi gh m ci ch (.slice aL ps.length cL) (.slice ao m co) ps)) (fun _ i _ => m - (Lib.intOf i).toNat)
       case atStart => exact ⟨0, 1, rfl, rfl, Lib.hid ⟨by decide, by have := ME.out; omega⟩, hS⟩
       case round =>
        clear hS
        obtain ⟨fn, k, rfl, rfl, hk, hS⟩ := hrel
        by_cases hlt : k < m
        ·have hki : (k : Int) ≤ (e : Int) := by have := ME.out; omega
         have k0 : (0 : Int) ≤ (k : Int) := Int.natCast_nonneg k
         have km : (k : Int) < (m : Int) := by omega
         obtain ⟨b7, zh⟩ := hS.out.geth hlt
         have HK := Lib.hid hlt
         clear hlt
         cases b7
         ·go_wp2_with fail
          go_roundw
          case rel => exact ⟨fn, k + 1, rfl, by first | rw [wrap_next HK.out (by have := ME.out; omega)] | rfl, Lib.hid ⟨by have := hk.out; omega, HK.out⟩, hS⟩
          case measure =>
           first
            | exact meas_next HK.out
            | (rw [wrap_next HK.out (by have := ME.out; omega)]; exact meas_next HK.out)
         ·obtain ⟨d, hd⟩ : ∃ d, d = k - fn - 1 := ⟨_, rfl⟩
          have w1 := row_gap hd hk.out ME.out
          have HD := Lib.hid (And.intro hd hk.out)
          clear hd
          go_wp2_with fail
          go_loopw [17] (fun v wy => ∃ j : Nat, v = .int .i64 j ∧ Hid (1 ≤ j ∧ j ≤ d + 1) ∧ Hid (R2 w wy g gi gh m ci ch (.slice aL ps.length cL) (.slice ao m co) ps)) (fun v _ => d + 1 - (Lib.intOf v).toNat)
          case atStart => exact ⟨1, rfl, Lib.hid ⟨Nat.le_refl _, by omega⟩, hS⟩
          case round =>
           clear hS zh
           obtain ⟨j, rfl, hj, hT⟩ := hrel
           by_cases hjd : j ≤ d
           ·have hji : (j : Int) ≤ (d : Int) := by omega
            have f0 : (0 : Int) ≤ (fn : Int) := Int.natCast_nonneg fn
            obtain ⟨fm, wd, wj, jm, r1, r2, r3, r4⟩ := row_facts HD.out HK.out hjd ME.out
            have RF := Lib.hid (And.intro r3 r4)
            obtain ⟨fj, hfj⟩ : ∃ x, x = fn + j := ⟨_, rfl⟩
            rw [← hfj] at wj jm r2
            have wj' := wrap_rg hfj (Int.lt_of_lt_of_le jm (by have := ME.out; omega))
            have j0 : (0 : Int) ≤ (fj : Int) := Int.natCast_nonneg _
            obtain ⟨-, -, -, -, -, -, -, -, z8, -⟩ := ec_cells hT.out.ke
            obtain ⟨xk, zk⟩ := hT.out.geti (j := k) HK.out
            obtain ⟨xf, zf⟩ := hT.out.geti (j := fn) r1
            obtain ⟨xj, zj⟩ := hT.out.geti (j := fj) r2
            have zi := fun j => hT.out.fri j
            obtain ⟨FA, NA, fA, -⟩ := opq .add rfl
            obtain ⟨FS, NS, fS, -⟩ := opq .sub rfl
            obtain ⟨FM, NM, fM, -⟩ := opq .mul rfl
            obtain ⟨FQ, NQ, fQ, -⟩ := opq .quo rfl
            obtain ⟨gj, hgj, -⟩ := opz (j : Int)
            obtain ⟨gd, hgd, -⟩ := opz ((d + 1 : Nat) : Int)
            clear hjd hj r3 r4 hfj
            go_wp2_with fail
            go_region
            go_wp2_with fail
            go_region
            go_wp2_with fail
            go_roundw
            case rel => exact ⟨j + 1, by first | rw [wrap_next RF.out.1 RF.out.2] | rfl, Lib.hid ⟨by omega, RF.out.1⟩, Lib.hid ((hT.out.drewN _).seti _ _)⟩
            case measure =>
             first
              | exact meas_next RF.out.1
              | (rw [wrap_next RF.out.1 RF.out.2]; exact meas_next RF.out.1)
           ·have hji : ¬ (j : Int) ≤ (d : Int) := by omega
            clear hjd
            go_wp2_with fail
            go_roundw
            case rel => exact ⟨k, k + 1, rfl, by first | rw [wrap_next HK.out (by have := ME.out; omega)] | rfl, Lib.hid ⟨by omega, HK.out⟩, hT⟩
            case measure =>
             first
              | exact meas_next HK.out
              | (rw [wrap_next HK.out (by have := ME.out; omega)]; exact meas_next HK.out)
        ·have hki : ¬ (k : Int) ≤ (e : Int) := by have := ME.out; omega
         obtain ⟨z0, z1, z2, z3, z4, z5, z6, z7, z8, z9⟩ := ec_cells hS.out.ke
         have zf := fun j => hS.out.kr.frozen j
         obtain ⟨y0, y1, y2, y3, y4, y5, y6, y7, y8, y9⟩ := z10_cells hS.out.kr
         have FIN := Lib.hid (fun (a : Act) h2 h3 hd => fin58 (vL := .slice aL ps.length cL) (vi := .slice (some ⟨gi, 0, none⟩) m ci) (vo := .slice ao m co) (b := true) (R := R) (a := a) HG.out hS.out.kr hS.out.b h2 h3 hd (fun wf hwf hB => by
          rw [e1.out]
          refine ⟨⟨ps, _, _, _, rfl, rfl, ⟨_, _, _, rfl⟩, ⟨_, _, _, rfl⟩, ⟨_, _, _, rfl⟩, ?_⟩, hB⟩
          rw [hwf, ← HG.out]
          exact (hS.out.l.set10 (.inl (by omega)) _ _ _ _ _ _ _ _ _ _).mono (fun b hb => .inl (by omega))))
         clear hlt hk
         go_wp2_with fail
         refine FIN.out _ ?_ ?_ ?_ <;> rfl
end Go.Proofs.YtlgencbldbpbdaaGreatDoor
namespace Go.Proofs.YtlgencbldbpbdaaGreatDoor
open Go.RowKit Fl
theorem res20 {wf : World} {a : Act} {g : Nat} {b : Bool} {v0 v1 v2 v3 v4 v5 v6 v7 v8 v9 : Value} {Q : Ending → World → Prop} (h2 : a.tmps[2]? = some (.pointer (some ⟨g, 0, none⟩))) (h3 : a.tmps[3]? = some (.bool b)) (hd : a.defers = []) (hk : BK wf g #[v0, v1, v2, v3, v4, v5, v6, v7, v8, v9] 43) (hQ : Q (.returned (.tuple #[.agg #[v0, v1, v2, v3, v4, v5, v6, v7, v8, v9], .bool b])) wf) : bodyPost Tryz.prog Tryz.f20 Q Exit.ret a wf := by
 have z0 := hk.cell 0; have z1 := hk.cell 1; have z2 := hk.cell 2; have z3 := hk.cell 3; have z4 := hk.cell 4; have z5 := hk.cell 5; have z6 := hk.cell 6; have z7 := hk.cell 7; have z8 := hk.cell 8; have z9 := hk.cell 9
 exact bodyPost_ret (v := .tuple #[.agg #[v0, v1, v2, v3, v4, v5, v6, v7, v8, v9], .bool b]) (by simp [results, Tryz.results20, go_sem, h2, h3, z0, z1, z2, z3, z4, z5, z6, z7, z8, z9]) hd hQ
theorem fin20 {w0 w : World} {g h x1 x2 x3 x4 : Nat} {n : Int} {J : ByteArray} {L i o : Value} {b : Bool} {R : Option Ez} {a : Act} (hg : g = w0.heap.size) (kr : BK w g Z10 43) (hb : Below g w0 w) (h2 : a.tmps[2]? = some (.pointer (some ⟨g, 0, none⟩))) (h3 : a.tmps[3]? = some (.bool b)) (hd : a.defers = [])
  (hR : ∀ wf, wf = ((((((((((w.setCell ⟨g, 0, none⟩ (.int .u8 h)).setCell ⟨g, 1, none⟩ (.float .f64 x1)).setCell ⟨g, 2, none⟩ (.float .f64 x2)).setCell ⟨g, 3, none⟩ (.float .f64 x3)).setCell ⟨g, 4, none⟩ (.float .f64 x4)).setCell ⟨g, 5, none⟩ (.int .i64 n)).setCell ⟨g, 6, none⟩ (.string J)).setCell ⟨g, 7, none⟩ L).setCell ⟨g, 8, none⟩ i).setCell ⟨g, 9, none⟩ o) → Below w0.heap.size w0 wf → RefR w0 R (.returned (.tuple #[.agg #[.int .u8 h, .float .f64 x1, .float .f64 x2, .float .f64 x3, .float .f64 x4, .int .i64 n, .string J, L, i, o], .bool b])) wf) :
  bodyPost Tryz.prog Tryz.f20 (RefR w0 R) Exit.ret a ((((((((((w.setCell ⟨g, 0, none⟩ (.int .u8 h)).setCell ⟨g, 1, none⟩ (.float .f64 x1)).setCell ⟨g, 2, none⟩ (.float .f64 x2)).setCell ⟨g, 3, none⟩ (.float .f64 x3)).setCell ⟨g, 4, none⟩ (.float .f64 x4)).setCell ⟨g, 5, none⟩ (.int .i64 n)).setCell ⟨g, 6, none⟩ (.string J)).setCell ⟨g, 7, none⟩ L).setCell ⟨g, 8, none⟩ i).setCell ⟨g, 9, none⟩ o) := by
 obtain ⟨K1, K2⟩ := set10 kr (.int .u8 h) (.float .f64 x1) (.float .f64 x2) (.float .f64 x3) (.float .f64 x4) (.int .i64 n) (.string J) L i o
 exact res20 h2 h3 hd K1 (hR _ rfl (K2 _ _ (Nat.le_of_eq hg.symm) (hg ▸ hb)))
theorem start20 (w : World) : BK (w.alloc (.cells Z10 43)) w.heap.size Z10 43 ∧ Below w.heap.size w (w.alloc (.cells Z10 43)) := ⟨heap_alloc_new w _, (Below.refl _ w).alloc (Nat.le_refl _) _⟩
theorem ref_no {w w' : World} {R : Option Ez} {h x1 x2 x3 x4 : Nat} {n : Int} {J : ByteArray} {L i o : Value} (e : R = none) (h1 : SLI L) (h2 : SLI i) (h3 : SLI o) (hb : Below w.heap.size w w') : RefR w R (.returned (.tuple #[.agg #[.int .u8 h, .float .f64 x1, .float .f64 x2, .float .f64 x3, .float .f64 x4, .int .i64 n, .string J, L, i, o], .bool false])) w' := by
 rw [e]
 exact ⟨⟨_, rfl, vz_mk h1 h2 h3⟩, hb⟩
theorem ref_line {w w' : World} {R : Option Ez} (e : R = some .line) (hb : Below w.heap.size w w') : RefR w R (.returned (.tuple #[.agg #[.int .u8 108, .float .f64 0, .float .f64 0, .float .f64 0, .float .f64 0, .int .i64 0, .string ⟨#[]⟩, .slice none 0 0, .slice none 0 0, .slice none 0 0], .bool true])) w' := by
 rw [e]
 exact ⟨⟨_, rfl, 108, 0, 0, 0, 0, 0, ⟨#[]⟩, _, _, _, rfl, sli0, sli0, sli0, rfl⟩, hb⟩
theorem ref_curve {w w' : World} {R : Option Ez} {a b c d : Nat} (e : R = some (.curve a b c d)) (hb : Below w.heap.size w w') : RefR w R (.returned (.tuple #[.agg #[.int .u8 99, .float .f64 a, .float .f64 b, .float .f64 c, .float .f64 d, .int .i64 0, .string ⟨#[]⟩, .slice none 0 0, .slice none 0 0, .slice none 0 0], .bool true])) w' := by
 rw [e]
 exact ⟨⟨_, rfl, 99, a, b, c, d, 0, ⟨#[]⟩, _, _, _, rfl, sli0, sli0, sli0, rfl, rfl, rfl, rfl, rfl⟩, hb⟩
theorem ref_one {w w' : World} {R : Option Ez} {j : Nat} {J : ByteArray} (e : R = some (.steps 1 j)) (hJ : bl J = jName j) (hb : Below w.heap.size w w') : RefR w R (.returned (.tuple #[.agg #[.int .u8 115, .float .f64 0, .float .f64 0, .float .f64 0, .float .f64 0, .int .i64 1, .string J, .slice none 0 0, .slice none 0 0, .slice none 0 0], .bool true])) w' := by
 rw [e]
 exact ⟨⟨_, rfl, 115, 0, 0, 0, 0, 1, J, _, _, _, rfl, sli0, sli0, sli0, rfl, rfl, hJ⟩, hb⟩
theorem curveF_np {l : List (List Nat)} {ps : List (Nat × List Nat)} (h : curveF l = some (.pts ps)) : False := by
 unfold curveF at h
 split at h
 ·split at h <;> cases h
 ·cases h
theorem stepsF_np {l : List (List Nat)} {ps : List (Nat × List Nat)} (h : stepsF l = some (.pts ps)) : False := by
 unfold stepsF at h
 split at h
 all_goals first
  | cases h
  | (unfold chkF at h; split at h <;> first | cases h | (split at h <;> cases h))
theorem REz.kept {w w' : World} {z : Ez} {v : Value} (h : REz w z v) (hp : ∀ ps, z ≠ .pts ps) : REz w' z v := by
 obtain ⟨h1, a, b, c, d, n, J, L, i, o, e, s1, s2, s3, h2⟩ := h
 refine ⟨h1, a, b, c, d, n, J, L, i, o, e, s1, s2, s3, ?_⟩
 cases z with
 | pts ps => exact absurd rfl (hp ps)
 | line => exact h2
 | curve _ _ _ _ => exact h2
 | steps _ _ => exact h2
theorem arg_row {w : World} {B : Nat} {u : Value} {zs : List ByteArray} (h : w.ownsRow B 9 1 u zs.length (sv zs)) (hn : 0 < zs.length) : ∃ A c, u = .slice (some ⟨A, 0, none⟩) zs.length c ∧ LS w A zs := by
 obtain ⟨A, c, e, -, hA, -, hk⟩ := own_cells h hn
 refine ⟨A, c, e, hA, fun k x hx => hk k _ ?_⟩
 unfold sv
 rw [List.getElem?_map, hx]
 rfl
theorem arg_len {m : List Nat} {zs : List ByteArray} (h : zs.map bl = (splN 44 m).map trimN) (hm : m.length ≤ 2000) : 0 < zs.length ∧ zs.length ≤ 2001 := by
 have h1 := congrArg List.length h
 rw [List.length_map, List.length_map] at h1
 have h2 := splN_length 44 m
 have h3 := List.length_pos_iff.2 (splN_ne 44 m)
 omega
theorem argE_len {W t m : List Nat} (h : argE W t = some m) (ht : t.length ≤ 2000) : m.length ≤ 2000 := by
 have e := congrArg List.length (argE_some h)
 simp only [List.length_append, List.length_cons, List.length_nil] at e
 omega
set_option maxRecDepth 100000 in
set_option maxHeartbeats 4000000 in
theorem k20 (s : ByteArray) (w : World) : Calls Tryz.prog 20 #[.string s] w fun e w' => RefR w (parseF (bl s)) e w' := by
 obtain ⟨R, hR0⟩ : ∃ R, R = parseF (bl s) := ⟨_, rfl⟩
 rw [← hR0]
 have hbl : (bl s).length = s.size := bl_len s
 obtain ⟨g, hg⟩ : ∃ g, g = w.heap.size := ⟨_, rfl⟩
 have HG := Lib.hid hg
 have S0 := Lib.hid (start20 w)
 have hsf := fun (a : Addr) (x : Nat) (m : Mode) (W : World) => (show (store a (.float .f64 x) m).run Tryz.prog W = stored Tryz.prog W a (.float .f64 x) m from run_store Tryz.prog W a _ m rfl)
 have HR := Lib.hid (And.intro hR0 hbl)
 clear hR0 hbl
 go_enter Tryz.func20, Tryz.ntmps20
 go_upto_region 1 with fail
 refine wp_genY (fun wx => BK wx w.heap.size Z10 43 ∧ Below w.heap.size w wx) S0.out ?_
 intro wx SMx
 rw [← hg] at SMx ⊢
 have H := Lib.hid SMx
 clear S0 SMx hg
 have zf := fun j => H.out.1.frozen j
 obtain ⟨y0, y1, y2, y3, y4, y5, y6, y7, y8, y9⟩ := z10_cells H.out.1
 by_cases h0 : 2000 < s.size
 ·have e1 : Hid (R = none) := Lib.hid (by rw [HR.out.1]; exact parse_long (by have := HR.out.2; omega))
  have hc : (s.size : Int) > 2000 := by omega
  have FIN := Lib.hid (fun (a : Act) h2 h3 hd => fin20 (h := 0) (x1 := 0) (x2 := 0) (x3 := 0) (x4 := 0) (n := 0) (J := ⟨#[]⟩) (L := .slice none 0 0) (i := .slice none 0 0) (o := .slice none 0 0) (b := false) (R := R) (a := a) HG.out H.out.1 H.out.2 h2 h3 hd (fun wf _ hB => ref_no e1.out sli0 sli0 sli0 hB))
  clear h0
  go_wp2_with fail
  refine FIN.out _ ?_ ?_ ?_ <;> rfl
 have hc : ¬ (s.size : Int) > 2000 := by omega
 have C54 := Lib.hid (k54 s wx (by omega))
 have HS := Lib.hid (show s.size ≤ 2000 by omega)
 clear h0
 go_upto_region 4 with (go_at_call 54; refine C54.out.mono ?_; rintro e w1 ⟨⟨z, rfl, hz, hzs⟩, hb1⟩; subst hb1; have HZ := Lib.hid (And.intro hz hzs); clear hz hzs)
 have q1 : (z.toList == [108, 105, 110, 101, 97, 114]) = decide (bl z = aLinear) := tl_eq z [108, 105, 110, 101, 97, 114]
 have q2 : (z.toList == [101, 97, 115, 101]) = decide (bl z = aEase) := tl_eq z [101, 97, 115, 101]
 have q3 : (z.toList == [101, 97, 115, 101, 45, 105, 110]) = decide (bl z = aEaseIn) := tl_eq z [101, 97, 115, 101, 45, 105, 110]
 have q4 : (z.toList == [101, 97, 115, 101, 45, 111, 117, 116]) = decide (bl z = aEaseOut) := tl_eq z [101, 97, 115, 101, 45, 111, 117, 116]
 have q5 : (z.toList == [101, 97, 115, 101, 45, 105, 110, 45, 111, 117, 116]) = decide (bl z = aEaseIO) := tl_eq z [101, 97, 115, 101, 45, 105, 110, 45, 111, 117, 116]
 have q6 : (z.toList == [115, 116, 101, 112, 45, 115, 116, 97, 114, 116]) = decide (bl z = aStepStart) := tl_eq z [115, 116, 101, 112, 45, 115, 116, 97, 114, 116]
 have q7 : (z.toList == [115, 116, 101, 112, 45, 101, 110, 100]) = decide (bl z = aStepEnd) := tl_eq z [115, 116, 101, 112, 45, 101, 110, 100]
 have KW := Lib.hid (kw_facts (bl z))
 have KOK : Hid (∀ q, kwF (bl z) = some q → R = some q) := Lib.hid (fun q hq => by rw [HR.out.1]; exact parse_kw (by have h1 := HR.out.2; have h2 := HS.out; omega) (by rw [← HZ.out.1]; exact hq))
 by_cases c1 : bl z = aLinear
 ·rw [decide_eq_true c1] at q1
  have e1 := Lib.hid (KOK.out _ (KW.out.1 c1))
  have FIN := Lib.hid (fun (a : Act) h2 h3 hd => fin20 (h := 108) (x1 := 0) (x2 := 0) (x3 := 0) (x4 := 0) (n := 0) (J := ⟨#[]⟩) (L := .slice none 0 0) (i := .slice none 0 0) (o := .slice none 0 0) (b := true) (R := R) (a := a) HG.out H.out.1 H.out.2 h2 h3 hd (fun wf _ hB => ref_line e1.out hB))
  clear q2 q3 q4 q5 q6 q7 c1
  go_wp2_with fail
  refine FIN.out _ ?_ ?_ ?_ <;> rfl
 rw [decide_eq_false c1] at q1
 by_cases c2 : bl z = aEase
 ·rw [decide_eq_true c2] at q2
  have e1 := Lib.hid (KOK.out _ (KW.out.2.1 c2))
  have FIN := Lib.hid (fun (a : Act) h2 h3 hd => fin20 (h := 99) (x1 := 4598175219545276416) (x2 := 4591870180066957722) (x3 := 4598175219545276416) (x4 := 4607182418800017408) (n := 0) (J := ⟨#[]⟩) (L := .slice none 0 0) (i := .slice none 0 0) (o := .slice none 0 0) (b := true) (R := R) (a := a) HG.out H.out.1 H.out.2 h2 h3 hd (fun wf _ hB => ref_curve e1.out hB))
  clear q3 q4 q5 q6 q7 c1 c2
  go_wp2_with fail
  refine FIN.out _ ?_ ?_ ?_ <;> rfl
 rw [decide_eq_false c2] at q2
 by_cases c3 : bl z = aEaseIn
 ·rw [decide_eq_true c3] at q3
  have e1 := Lib.hid (KOK.out _ (KW.out.2.2.1 c3))
  have FIN := Lib.hid (fun (a : Act) h2 h3 hd => fin20 (h := 99) (x1 := 4601237667291888353) (x2 := 0) (x3 := 4607182418800017408) (x4 := 4607182418800017408) (n := 0) (J := ⟨#[]⟩) (L := .slice none 0 0) (i := .slice none 0 0) (o := .slice none 0 0) (b := true) (R := R) (a := a) HG.out H.out.1 H.out.2 h2 h3 hd (fun wf _ hB => ref_curve e1.out hB))
  clear q4 q5 q6 q7 c1 c2 c3
  go_wp2_with fail
  refine FIN.out _ ?_ ?_ ?_ <;> rfl
 rw [decide_eq_false c3] at q3
 by_cases c4 : bl z = aEaseOut
 ·rw [decide_eq_true c4] at q4
  have e1 := Lib.hid (KOK.out _ (KW.out.2.2.2.1 c4))
  have FIN := Lib.hid (fun (a : Act) h2 h3 hd => fin20 (h := 99) (x1 := 0) (x2 := 0) (x3 := 4603399395113026191) (x4 := 4607182418800017408) (n := 0) (J := ⟨#[]⟩) (L := .slice none 0 0) (i := .slice none 0 0) (o := .slice none 0 0) (b := true) (R := R) (a := a) HG.out H.out.1 H.out.2 h2 h3 hd (fun wf _ hB => ref_curve e1.out hB))
  clear q5 q6 q7 c1 c2 c3 c4
  go_wp2_with fail
  refine FIN.out _ ?_ ?_ ?_ <;> rfl
 rw [decide_eq_false c4] at q4
 by_cases c5 : bl z = aEaseIO
 ·rw [decide_eq_true c5] at q5
  have e1 := Lib.hid (KOK.out _ (KW.out.2.2.2.2.1 c5))
  have FIN := Lib.hid (fun (a : Act) h2 h3 hd => fin20 (h := 99) (x1 := 4601237667291888353) (x2 := 0) (x3 := 4603399395113026191) (x4 := 4607182418800017408) (n := 0) (J := ⟨#[]⟩) (L := .slice none 0 0) (i := .slice none 0 0) (o := .slice none 0 0) (b := true) (R := R) (a := a) HG.out H.out.1 H.out.2 h2 h3 hd (fun wf _ hB => ref_curve e1.out hB))
  clear q6 q7 c1 c2 c3 c4 c5
  go_wp2_with fail
  refine FIN.out _ ?_ ?_ ?_ <;> rfl
 rw [decide_eq_false c5] at q5
 by_cases c6 : bl z = aStepStart
 ·rw [decide_eq_true c6] at q6
  have e1 := Lib.hid (KOK.out _ (KW.out.2.2.2.2.2.1 c6))
  have FIN := Lib.hid (fun (a : Act) h2 h3 hd => fin20 (h := 115) (x1 := 0) (x2 := 0) (x3 := 0) (x4 := 0) (n := 1) (J := ⟨#[106, 117, 109, 112, 45, 115, 116, 97, 114, 116]⟩) (L := .slice none 0 0) (i := .slice none 0 0) (o := .slice none 0 0) (b := true) (R := R) (a := a) HG.out H.out.1 H.out.2 h2 h3 hd (fun wf _ hB => ref_one e1.out rfl hB))
  clear q7 c1 c2 c3 c4 c5 c6
  go_wp2_with fail
  refine FIN.out _ ?_ ?_ ?_ <;> rfl
 rw [decide_eq_false c6] at q6
 by_cases c7 : bl z = aStepEnd
 ·rw [decide_eq_true c7] at q7
  have e1 := Lib.hid (KOK.out _ (KW.out.2.2.2.2.2.2.1 c7))
  have FIN := Lib.hid (fun (a : Act) h2 h3 hd => fin20 (h := 115) (x1 := 0) (x2 := 0) (x3 := 0) (x4 := 0) (n := 1) (J := ⟨#[106, 117, 109, 112, 45, 101, 110, 100]⟩) (L := .slice none 0 0) (i := .slice none 0 0) (o := .slice none 0 0) (b := true) (R := R) (a := a) HG.out H.out.1 H.out.2 h2 h3 hd (fun wf _ hB => ref_one e1.out rfl hB))
  clear  c1 c2 c3 c4 c5 c6 c7
  go_wp2_with fail
  refine FIN.out _ ?_ ?_ ?_ <;> rfl
 rw [decide_eq_false c7] at q7
 have AR : Hid (R = refF (bl z)) := Lib.hid (by rw [ref_arg, HR.out.1, HZ.out.1]; exact parse_ar (by have h1 := HR.out.2; have h2 := HS.out; omega) (by rw [← HZ.out.1]; exact KW.out.2.2.2.2.2.2.2 c1 c2 c3 c4 c5 c6 c7))
 have ZS : Hid (z.size ≤ 2000 ∧ (bl z).length ≤ 2000) := Lib.hid (by have h1 := HZ.out.2; have h2 := HS.out; rw [bl_len]; omega)
 clear c1 c2 c3 c4 c5 c6 c7 KW KOK y0 y1 y2 y3 y4 y5 y6 y7 y8 y9 zf
 have C55_1 : Hid (∀ w1 : World, Calls Tryz.prog 55 #[.string z, .string ⟨#[99, 117, 98, 105, 99, 45, 98, 101, 122, 105, 101, 114]⟩] w1 fun e w' => ArgR w1 (argE aCubic (bl z)) e w') := Lib.hid (fun w1 => k55 z ⟨#[99, 117, 98, 105, 99, 45, 98, 101, 122, 105, 101, 114]⟩ w1 ZS.out.1 (by decide))
 obtain ⟨o1, h1o⟩ : ∃ o, argE aCubic (bl z) = o := ⟨_, rfl⟩
 rw [h1o] at C55_1
 have HO1 := Lib.hid h1o
 clear h1o
 cases o1 with
 | some m =>
   have ER : Hid (R = curveF ((splN 44 m).map trimN)) := Lib.hid (by rw [AR.out]; unfold refF; rw [HO1.out])
   go_upto_region 20 with (go_at_call 55; refine (C55_1.out _).mono ?_; rintro e w2 ⟨⟨u, zs, rfl, hz1, hz2, hown⟩, hb⟩; have HZZ := Lib.hid (And.intro hz1 (And.intro hz2 hown)); have B2 := Lib.hid hb; clear hz1 hz2 hown hb)
   have LN := Lib.hid (arg_len HZZ.out.1 (argE_len HO1.out ZS.out.2))
   obtain ⟨A, c, rfl, hls⟩ := arg_row HZZ.out.2.2 LN.out.1
   have HLS := Lib.hid hls
   have K2 : Hid (BK w2 g Z10 43 ∧ Below g w w2) := Lib.hid ⟨H.out.1.below B2.out, H.out.2.trans (B2.out.mono (by have := H.out.1.lt; omega))⟩
   obtain ⟨ln, hln⟩ : ∃ n, n = zs.length := ⟨_, rfl⟩
   have CF : Hid (Calls Tryz.prog 56 #[.slice (some ⟨A, 0, none⟩) ln c] w2 fun e w' => RefR w2 R e w') := Lib.hid (by rw [ER.out, ← HZZ.out.1, hln]; exact k56 A zs c w2 HLS.out HZZ.out.2.1 (by have := LN.out.2; omega))
   rw [← hln]
   clear hln C55_1
   cases hR : R with
   | none =>
     rw [hR] at CF
     have e1 := Lib.hid hR
     clear hR
     go_wp2_with (go_at_call 56; refine CF.out.mono ?_; rintro e w3 ⟨⟨v, rfl, h, x1, x2, x3, x4, n, J, L, i, o, rfl, ⟨la, lm, lc, rfl⟩, ⟨ia, im, ic, rfl⟩, ⟨oa, om, oc, rfl⟩⟩, hb⟩; have B3 := Lib.hid hb; clear hb; have K3 : Hid (BK w3 g Z10 43 ∧ Below g w w3) := Lib.hid ⟨K2.out.1.below B3.out, K2.out.2.trans (B3.out.mono (by have := K2.out.1.lt; omega))⟩; have zf := fun j => K3.out.1.frozen j; obtain ⟨y0, y1, y2, y3, y4, y5, y6, y7, y8, y9⟩ := z10_cells K3.out.1)
     exact fin20 (h := h) (x1 := x1) (x2 := x2) (x3 := x3) (x4 := x4) (n := n) (J := J) (b := false) HG.out K3.out.1 K3.out.2 rfl rfl rfl (fun wf hwf hB => ref_no e1.out ⟨_, _, _, rfl⟩ ⟨_, _, _, rfl⟩ ⟨_, _, _, rfl⟩ hB)
   | some zz =>
     rw [hR] at CF
     have e1 := Lib.hid hR
     clear hR
     go_wp2_with (go_at_call 56; refine CF.out.mono ?_; rintro e w3 ⟨⟨v, rfl, h, x1, x2, x3, x4, n, J, L, i, o, rfl, ⟨la, lm, lc, rfl⟩, ⟨ia, im, ic, rfl⟩, ⟨oa, om, oc, rfl⟩, hz⟩, hb⟩; have B3 := Lib.hid hb; clear hb; have K3 : Hid (BK w3 g Z10 43 ∧ Below g w w3) := Lib.hid ⟨K2.out.1.below B3.out, K2.out.2.trans (B3.out.mono (by have := K2.out.1.lt; omega))⟩; have zf := fun j => K3.out.1.frozen j; obtain ⟨y0, y1, y2, y3, y4, y5, y6, y7, y8, y9⟩ := z10_cells K3.out.1; have HZ9 := Lib.hid hz; clear hz)
     exact fin20 (h := h) (x1 := x1) (x2 := x2) (x3 := x3) (x4 := x4) (n := n) (J := J) (b := true) HG.out K3.out.1 K3.out.2 rfl rfl rfl (fun wf hwf hB => by rw [e1.out]; exact ⟨⟨_, rfl, REz.kept (w := w3) ⟨h, x1, x2, x3, x4, n, J, _, _, _, rfl, ⟨_, _, _, rfl⟩, ⟨_, _, _, rfl⟩, ⟨_, _, _, rfl⟩, HZ9.out⟩ (fun ps e => curveF_np (ER.out.symm.trans (e1.out.trans (congrArg some e))))⟩, hB⟩)
 | none =>
   go_upto_region 22 with (go_at_call 55; refine (C55_1.out _).mono ?_; rintro e w1' ⟨rfl, hb⟩; have B1' := Lib.hid hb; clear hb)
   have J1 : Hid (BK w1' g Z10 43 ∧ Below g w w1') := Lib.hid ⟨H.out.1.below B1'.out, H.out.2.trans (B1'.out.mono (by have := H.out.1.lt; omega))⟩
   clear C55_1
   have C55_2 : Hid (∀ w1 : World, Calls Tryz.prog 55 #[.string z, .string ⟨#[115, 116, 101, 112, 115]⟩] w1 fun e w' => ArgR w1 (argE aStepsW (bl z)) e w') := Lib.hid (fun w1 => k55 z ⟨#[115, 116, 101, 112, 115]⟩ w1 ZS.out.1 (by decide))
   obtain ⟨o2, h2o⟩ : ∃ o, argE aStepsW (bl z) = o := ⟨_, rfl⟩
   rw [h2o] at C55_2
   have HO2 := Lib.hid h2o
   clear h2o
   cases o2 with
   | some m =>
     have ER : Hid (R = stepsF ((splN 44 m).map trimN)) := Lib.hid (by rw [AR.out]; unfold refF; rw [HO1.out, HO2.out])
     go_upto_region 23 with (go_at_call 55; refine (C55_2.out _).mono ?_; rintro e w2 ⟨⟨u, zs, rfl, hz1, hz2, hown⟩, hb⟩; have HZZ := Lib.hid (And.intro hz1 (And.intro hz2 hown)); have B2 := Lib.hid hb; clear hz1 hz2 hown hb)
     have LN := Lib.hid (arg_len HZZ.out.1 (argE_len HO2.out ZS.out.2))
     obtain ⟨A, c, rfl, hls⟩ := arg_row HZZ.out.2.2 LN.out.1
     have HLS := Lib.hid hls
     have K2 : Hid (BK w2 g Z10 43 ∧ Below g w w2) := Lib.hid ⟨J1.out.1.below B2.out, J1.out.2.trans (B2.out.mono (by have := J1.out.1.lt; omega))⟩
     obtain ⟨ln, hln⟩ : ∃ n, n = zs.length := ⟨_, rfl⟩
     have CF : Hid (Calls Tryz.prog 57 #[.slice (some ⟨A, 0, none⟩) ln c] w2 fun e w' => RefR w2 R e w') := Lib.hid (by
      rw [ER.out, ← HZZ.out.1, hln]
      have h1 := LN.out.1
      have h2 := HLS.out
      have h3 := HZZ.out.2.1
      cases zs with
      | nil => simp at h1
      | cons x0 xs => exact k57 A x0 xs c w2 h2 h3)
     rw [← hln]
     clear hln C55_2
     cases hR : R with
     | none =>
       rw [hR] at CF
       have e1 := Lib.hid hR
       clear hR
       go_wp2_with (go_at_call 57; refine CF.out.mono ?_; rintro e w3 ⟨⟨v, rfl, h, x1, x2, x3, x4, n, J, L, i, o, rfl, ⟨la, lm, lc, rfl⟩, ⟨ia, im, ic, rfl⟩, ⟨oa, om, oc, rfl⟩⟩, hb⟩; have B3 := Lib.hid hb; clear hb; have K3 : Hid (BK w3 g Z10 43 ∧ Below g w w3) := Lib.hid ⟨K2.out.1.below B3.out, K2.out.2.trans (B3.out.mono (by have := K2.out.1.lt; omega))⟩; have zf := fun j => K3.out.1.frozen j; obtain ⟨y0, y1, y2, y3, y4, y5, y6, y7, y8, y9⟩ := z10_cells K3.out.1)
       exact fin20 (h := h) (x1 := x1) (x2 := x2) (x3 := x3) (x4 := x4) (n := n) (J := J) (b := false) HG.out K3.out.1 K3.out.2 rfl rfl rfl (fun wf hwf hB => ref_no e1.out ⟨_, _, _, rfl⟩ ⟨_, _, _, rfl⟩ ⟨_, _, _, rfl⟩ hB)
     | some zz =>
       rw [hR] at CF
       have e1 := Lib.hid hR
       clear hR
       go_wp2_with (go_at_call 57; refine CF.out.mono ?_; rintro e w3 ⟨⟨v, rfl, h, x1, x2, x3, x4, n, J, L, i, o, rfl, ⟨la, lm, lc, rfl⟩, ⟨ia, im, ic, rfl⟩, ⟨oa, om, oc, rfl⟩, hz⟩, hb⟩; have B3 := Lib.hid hb; clear hb; have K3 : Hid (BK w3 g Z10 43 ∧ Below g w w3) := Lib.hid ⟨K2.out.1.below B3.out, K2.out.2.trans (B3.out.mono (by have := K2.out.1.lt; omega))⟩; have zf := fun j => K3.out.1.frozen j; obtain ⟨y0, y1, y2, y3, y4, y5, y6, y7, y8, y9⟩ := z10_cells K3.out.1; have HZ9 := Lib.hid hz; clear hz)
       exact fin20 (h := h) (x1 := x1) (x2 := x2) (x3 := x3) (x4 := x4) (n := n) (J := J) (b := true) HG.out K3.out.1 K3.out.2 rfl rfl rfl (fun wf hwf hB => by rw [e1.out]; exact ⟨⟨_, rfl, REz.kept (w := w3) ⟨h, x1, x2, x3, x4, n, J, _, _, _, rfl, ⟨_, _, _, rfl⟩, ⟨_, _, _, rfl⟩, ⟨_, _, _, rfl⟩, HZ9.out⟩ (fun ps e => stepsF_np (ER.out.symm.trans (e1.out.trans (congrArg some e))))⟩, hB⟩)
   | none =>
     go_upto_region 25 with (go_at_call 55; refine (C55_2.out _).mono ?_; rintro e w2' ⟨rfl, hb⟩; have B2' := Lib.hid hb; clear hb)
     have J2 : Hid (BK w2' g Z10 43 ∧ Below g w w2') := Lib.hid ⟨J1.out.1.below B2'.out, J1.out.2.trans (B2'.out.mono (by have := J1.out.1.lt; omega))⟩
     clear C55_2
     have C55_3 : Hid (∀ w1 : World, Calls Tryz.prog 55 #[.string z, .string ⟨#[108, 105, 110, 101, 97, 114]⟩] w1 fun e w' => ArgR w1 (argE aLinear (bl z)) e w') := Lib.hid (fun w1 => k55 z ⟨#[108, 105, 110, 101, 97, 114]⟩ w1 ZS.out.1 (by decide))
     obtain ⟨o3, h3o⟩ : ∃ o, argE aLinear (bl z) = o := ⟨_, rfl⟩
     rw [h3o] at C55_3
     have HO3 := Lib.hid h3o
     clear h3o
     cases o3 with
     | some m =>
       have ER : Hid (R = ptsF ((splN 44 m).map trimN)) := Lib.hid (by rw [AR.out]; unfold refF; rw [HO1.out, HO2.out, HO3.out])
       go_upto_region 26 with (go_at_call 55; refine (C55_3.out _).mono ?_; rintro e w2 ⟨⟨u, zs, rfl, hz1, hz2, hown⟩, hb⟩; have HZZ := Lib.hid (And.intro hz1 (And.intro hz2 hown)); have B2 := Lib.hid hb; clear hz1 hz2 hown hb)
       have LN := Lib.hid (arg_len HZZ.out.1 (argE_len HO3.out ZS.out.2))
       obtain ⟨A, c, rfl, hls⟩ := arg_row HZZ.out.2.2 LN.out.1
       have HLS := Lib.hid hls
       have K2 : Hid (BK w2 g Z10 43 ∧ Below g w w2) := Lib.hid ⟨J2.out.1.below B2.out, J2.out.2.trans (B2.out.mono (by have := J2.out.1.lt; omega))⟩
       obtain ⟨ln, hln⟩ : ∃ n, n = zs.length := ⟨_, rfl⟩
       have CF : Hid (Calls Tryz.prog 58 #[.slice (some ⟨A, 0, none⟩) ln c] w2 fun e w' => RefP w2 R e w') := Lib.hid (by rw [ER.out, ← HZZ.out.1, hln]; exact k58 A zs c w2 HLS.out HZZ.out.2.1 (by have := LN.out.2; omega))
       rw [← hln]
       clear hln C55_3
       cases hR : R with
       | none =>
         rw [hR] at CF
         have e1 := Lib.hid hR
         clear hR
         go_wp2_with (go_at_call 58; refine CF.out.mono ?_; rintro e w3 ⟨⟨v, rfl, h, x1, x2, x3, x4, n, J, L, i, o, rfl, ⟨la, lm, lc, rfl⟩, ⟨ia, im, ic, rfl⟩, ⟨oa, om, oc, rfl⟩⟩, hb⟩; have B3 := Lib.hid hb; clear hb; have K3 : Hid (BK w3 g Z10 43 ∧ Below g w w3) := Lib.hid ⟨K2.out.1.below B3.out, K2.out.2.trans (B3.out.mono (by have := K2.out.1.lt; omega))⟩; have zf := fun j => K3.out.1.frozen j; obtain ⟨y0, y1, y2, y3, y4, y5, y6, y7, y8, y9⟩ := z10_cells K3.out.1)
         exact fin20 (h := h) (x1 := x1) (x2 := x2) (x3 := x3) (x4 := x4) (n := n) (J := J) (b := false) HG.out K3.out.1 K3.out.2 rfl rfl rfl (fun wf hwf hB => ref_no e1.out ⟨_, _, _, rfl⟩ ⟨_, _, _, rfl⟩ ⟨_, _, _, rfl⟩ hB)
       | some zz =>
         rw [hR] at CF
         have e1 := Lib.hid hR
         clear hR
         go_wp2_with (go_at_call 58; refine CF.out.mono ?_; rintro e w3 ⟨⟨ps, L, i, o, rfl, rfl, ⟨la, lm, lc, rfl⟩, ⟨ia, im, ic, rfl⟩, ⟨oa, om, oc, rfl⟩, hz⟩, hb⟩; have B3 := Lib.hid hb; clear hb; have K3 : Hid (BK w3 g Z10 43 ∧ Below g w w3) := Lib.hid ⟨K2.out.1.below B3.out, K2.out.2.trans (B3.out.mono (by have := K2.out.1.lt; omega))⟩; have zf := fun j => K3.out.1.frozen j; obtain ⟨y0, y1, y2, y3, y4, y5, y6, y7, y8, y9⟩ := z10_cells K3.out.1; have HZ9 := Lib.hid hz; clear hz)
         exact fin20 (h := 112) (x1 := 0) (x2 := 0) (x3 := 0) (x4 := 0) (n := 0) (J := ⟨#[]⟩) (b := true) HG.out K3.out.1 K3.out.2 rfl rfl rfl (fun wf hwf hB => by rw [e1.out]; exact ⟨⟨_, rfl, 112, 0, 0, 0, 0, 0, ⟨#[]⟩, _, _, _, rfl, ⟨_, _, _, rfl⟩, ⟨_, _, _, rfl⟩, ⟨_, _, _, rfl⟩, rfl, by rw [hwf]; exact (HZ9.out.set10 (K2.out.1.lt) _ _ _ _ _ _ _ _ _ _).at⟩, hB⟩)
     | none =>
       go_upto_region 28 with (go_at_call 55; refine (C55_3.out _).mono ?_; rintro e w3' ⟨rfl, hb⟩; have B3' := Lib.hid hb; clear hb)
       have J3 : Hid (BK w3' g Z10 43 ∧ Below g w w3') := Lib.hid ⟨J2.out.1.below B3'.out, J2.out.2.trans (B3'.out.mono (by have := J2.out.1.lt; omega))⟩
       clear C55_3
       have e1 : Hid (R = none) := Lib.hid (by rw [AR.out]; unfold refF; rw [HO1.out, HO2.out, HO3.out])
       have zf := fun j => J3.out.1.frozen j
       obtain ⟨y0, y1, y2, y3, y4, y5, y6, y7, y8, y9⟩ := z10_cells J3.out.1
       go_wp2_with fail
       exact fin20 (h := 0) (x1 := 0) (x2 := 0) (x3 := 0) (x4 := 0) (n := 0) (J := ⟨#[]⟩) (L := .slice none 0 0) (i := .slice none 0 0) (o := .slice none 0 0) (b := false) (R := R) HG.out J3.out.1 J3.out.2 rfl rfl rfl (fun wf _ hB => ref_no e1.out sli0 sli0 sli0 hB)
end Go.Proofs.YtlgencbldbpbdaaGreatDoor
