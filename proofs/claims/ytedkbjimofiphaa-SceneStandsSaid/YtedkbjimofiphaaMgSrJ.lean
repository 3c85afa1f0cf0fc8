/- scene.painted$2: boxes put upon the stack. An append onto a row of the call's own, and in which block the row then stands. -/
import Derived.Test.YtedkbjimofiphaaMgSrG
import Derived.Laws.OwnMore
import Derived.Laws.AppendOwnNone
import Derived.Test.YtedkbjimofiphaaSumK
namespace Go.Proofs.Ytedkbjimofiphaa
open Go.RowKit Fl
/-- below B nothing is another but some blocks -/
structure Keep (B : Nat) (ex : Nat → Prop) (w w' : World) : Prop where
  os : w'.os = w.os
  tape : w'.tape = w.tape
  output : w'.output = w.output
  size : w.heap.size ≤ w'.heap.size
  block : ∀ k, k < B → ¬ ex k → w'.heap[k]? = w.heap[k]?
theorem Keep.refl (B : Nat) (ex : Nat → Prop) (w : World) : Keep B ex w w := ⟨rfl, rfl, rfl, Nat.le_refl _, fun _ _ _ => rfl⟩
theorem Keep.trans {B : Nat} {ex : Nat → Prop} {a b c : World} (h : Keep B ex a b) (k : Keep B ex b c) : Keep B ex a c :=
  ⟨k.os.trans h.os, k.tape.trans h.tape, k.output.trans h.output, Nat.le_trans h.size k.size, fun i hi he => (k.block i hi he).trans (h.block i hi he)⟩
theorem Keep.mono {B B' : Nat} {ex ex' : Nat → Prop} {w w' : World} (h : Keep B ex w w') (hB : B' ≤ B) (he : ∀ k, k < B' → ex k → ex' k) : Keep B' ex' w w' :=
  ⟨h.os, h.tape, h.output, h.size, fun k hk hn => h.block k (by omega) (fun x => hn (he k hk x))⟩
theorem Keep.of_below {B : Nat} {ex : Nat → Prop} {w w' : World} (h : Below B w w') : Keep B ex w w' := ⟨h.os, h.tape, h.output, h.size, fun k hk _ => h.block k hk⟩
theorem Keep.of_only {B b : Nat} {ex : Nat → Prop} {w w' : World} (h : Only b w w') (hB : B ≤ w.heap.size) (hb : b < B → ex b) : Keep B ex w w' :=
  ⟨h.os, h.tape, h.output, h.size, fun k hk hn => h.block k (by omega) (fun e => hn (e ▸ hb (e ▸ hk)))⟩
theorem Keep.of_grown {B : Nat} {ex : Nat → Prop} {w w' : World} {row : Option Nat} (h : w.grownBy w' row) (hB : B ≤ w.heap.size) (hr : ∀ k, row = some k → B ≤ k) : Keep B ex w w' :=
  ⟨h.os, h.tape, h.output, h.size, fun k hk _ => h.block k (by omega) (fun e => by have := hr k e.symm; omega)⟩
theorem Keep.below {B : Nat} {ex : Nat → Prop} {w w' : World} (h : Keep B ex w w') (D : Nat) (hD : D ≤ B) (he : ∀ k, k < D → ¬ ex k) : Below D w w' := ⟨h.os, h.tape, h.output, h.size, fun k hk => h.block k (by omega) (he k hk)⟩
theorem Keep.cell {B : Nat} {ex : Nat → Prop} {w w' : World} (h : Keep B ex w w') {p : Addr} (hp : p.block < B) (hn : ¬ ex p.block) : w'.cell? p = w.cell? p := World.cell?_of_block (w := w) (h.block p.block hp hn)
theorem Keep.frozen {B : Nat} {ex : Nat → Prop} {w w' : World} (h : Keep B ex w w') {p : Addr} (hp : p.block < B) (hn : ¬ ex p.block) : w'.frozen? p = w.frozen? p := World.frozen?_of_block (w := w) (h.block p.block hp hn)
theorem Keep.set {B : Nat} {ex : Nat → Prop} {w w' : World} (h : Keep B ex w w') (p : Addr) (v : Value) (hp : p.block < B → ex p.block) : Keep B ex w (w'.setCell p v) :=
  ⟨h.os, h.tape, h.output, by simpa [World.setCell] using h.size, fun k hk hn => (Below.heap_setCell _ _ _ _ (fun e => by subst e; exact hn (hp hk))).trans (h.block k hk hn)⟩
theorem Keep.alloc {B : Nat} {ex : Nat → Prop} {w w' : World} (h : Keep B ex w w') (hB : B ≤ w'.heap.size) (o : Obj) : Keep B ex w (w'.alloc o) :=
  h.trans (.of_below ((Below.refl B w').alloc hB o))
theorem Keep.dat {B : Nat} {ex : Nat → Prop} {w w' : World} (h : Keep B ex w w') {g : Nat} {d : List Nat} (hd : DAt w g d) (hg : g < B) (hn : ¬ ex g) : DAt w' g d :=
  ⟨fun j v hj => (h.cell (p := ⟨g, 0 + j, none⟩) hg hn).trans (hd.r j v hj), fun j hj => by rw [h.cell (p := ⟨g, 0 + j, none⟩) hg hn, h.frozen (p := ⟨g, 0 + j, none⟩) hg hn]; exact hd.t j hj, Nat.lt_of_lt_of_le hd.l h.size⟩
theorem Keep.ce {B : Nat} {ex : Nat → Prop} {w w' : World} (h : Keep B ex w w') {bx ga n c : Nat} {lv : Nat → Nat} (hc : CE w bx ga n c lv) (h1 : bx < B) (h2 : ga < B) (n1 : ¬ ex bx) (n2 : ¬ ex ga) : CE w' bx ga n c lv :=
  ⟨(h.cell (p := ⟨bx, 0, none⟩) h1 n1).trans hc.box, fun i hi => (h.cell (p := ⟨ga, i * 25 + 23, none⟩) h2 n2).trans (hc.at_ i hi), hc.u, Nat.lt_of_lt_of_le hc.lb h.size, Nat.lt_of_lt_of_le hc.la h.size⟩
/-- rows that the call owns from base on stay when they are not written -/
theorem owned_same {base size n : Nat} {e : TypeId} {v : Value} {xs : List Value} {w w' : World} (ho : w.ownsRow base e size v n xs) (h : ∀ k, base ≤ k → k < w.heap.size → w'.heap[k]? = w.heap[k]?) : w'.ownsRow base e size v n xs := by
  refine ⟨ho.1, ?_⟩
  rcases ho.2 with h1 | ⟨g, cap, cur, rfl, h2, h3, h4⟩
  · exact Or.inl h1
  · have hl : g < w.heap.size := by
      rcases Nat.lt_or_ge g w.heap.size with h | h
      · exact h
      · rw [Array.getElem?_eq_none h] at h3; cases h3
    exact Or.inr ⟨g, cap, cur, rfl, h2, (h g h2 hl).trans h3, h4⟩
theorem Only.owned {b base size n : Nat} {e : TypeId} {v : Value} {xs : List Value} {w w' : World} (h : Only b w w') (ho : w.ownsRow base e size v n xs) (hb : b < base) : w'.ownsRow base e size v n xs :=
  owned_same ho fun k h1 h2 => h.block k h2 (by omega)
theorem Below.owned {base size n : Nat} {e : TypeId} {v : Value} {xs : List Value} {w w' : World} (h : Below w.heap.size w w') (ho : w.ownsRow base e size v n xs) : w'.ownsRow base e size v n xs :=
  owned_same ho fun k _ h2 => h.block k h2
theorem owned_set {base size n : Nat} {e : TypeId} {v : Value} {xs : List Value} {w : World} (ho : w.ownsRow base e size v n xs) {p : Addr} (hp : p.block < base) (u : Value) : (w.setCell p u).ownsRow base e size v n xs :=
  owned_same ho fun k h1 _ => Below.heap_setCell _ _ _ _ (by omega)
theorem owned_slice {base size n : Nat} {e : TypeId} {v : Value} {xs : List Value} {w : World} (ho : w.ownsRow base e size v n xs) : ∃ p c, v = .slice p n c ∧ ∀ k, v.ownBlock = some k → base ≤ k := by
  rcases ho.2 with ⟨rfl, rfl⟩ | ⟨g, cap, cur, rfl, h2, h3, h4⟩
  · exact ⟨none, 0, rfl, fun k hk => by cases hk⟩
  · exact ⟨_, _, rfl, fun k hk => by cases hk; exact h2⟩
/-- an append onto a row of the call's own, old blocks' view -/
theorem grown_keep {base size n : Nat} {e : TypeId} {v : Value} {xs : List Value} {w w' : World} (ho : w.ownsRow base e size v n xs) (hg : w.grownBy w' v.ownBlock) (hB : base ≤ w.heap.size) (ex : Nat → Prop) : Keep base ex w w' :=
  .of_grown hg hB (owned_slice ho).choose_spec.choose_spec.2
theorem info3 : (Try.prog.info? 3).map (fun i => (i.zero, i.size, i.bytes)) = some (some (.int .i64 0), 1, 8) := by kernel_rfl
theorem iv_one {l : List Nat} : ∀ u ∈ l.map iv, u.oneCell' = true := fun u hu => by
  obtain ⟨_, _, rfl⟩ := List.mem_map.1 hu; rfl
theorem Keep.of_grown2 {B : Nat} {ex : Nat → Prop} {w w' : World} {row : Option Nat} (h : w.grownBy w' row) (hB : B ≤ w.heap.size) (hr : ∀ k, row = some k → ex k) : Keep B ex w w' :=
  ⟨h.os, h.tape, h.output, h.size, fun k hk hn => h.block k (by omega) (fun e => hn (hr k e.symm))⟩
theorem owned_at {base size n : Nat} {e : TypeId} {v : Value} {xs : List Value} {w w' : World} (ho : w.ownsRow base e size v n xs) (h : ∀ k, v.ownBlock = some k → k < w.heap.size → w'.heap[k]? = w.heap[k]?) : w'.ownsRow base e size v n xs := by
  refine ⟨ho.1, ?_⟩
  rcases ho.2 with h1 | ⟨g, cap, cur, rfl, h2, h3, h4⟩
  · exact Or.inl h1
  · have hl : g < w.heap.size := by
      rcases Nat.lt_or_ge g w.heap.size with h | h
      · exact h
      · rw [Array.getElem?_eq_none h] at h3; cases h3
    exact Or.inr ⟨g, cap, cur, rfl, h2, (h g rfl hl).trans h3, h4⟩
/-- rows of two types stand in two blocks -/
theorem owned_apart {b1 b2 s1 s2 n1 n2 : Nat} {e1 e2 : TypeId} {v1 v2 : Value} {x1 x2 : List Value} {w : World} (h1 : w.ownsRow b1 e1 s1 v1 n1 x1) (h2 : w.ownsRow b2 e2 s2 v2 n2 x2) (he : e1 ≠ e2) : ∀ k, v1.ownBlock = some k → v2.ownBlock ≠ some k := fun k hk hk2 => by
  rcases h1.2 with ⟨rfl, _⟩ | ⟨g, cap, cur, rfl, _, h3, _⟩
  · cases hk
  · rcases h2.2 with ⟨rfl, _⟩ | ⟨g2, cap2, cur2, rfl, _, h4, _⟩
    · cases hk2
    · cases hk; cases hk2
      rw [h3] at h4
      injection h4 with h4
      injection h4 with _ h4
      exact he h4
/-- where push stands: the order's cell, the stack's cell -/
structure PS (w : World) (B lb tb bx : Nat) (S : List Nat) : Prop where
  lo : w.cell? ⟨lb, 0, none⟩ = some (.func (.func 57) #[] #[.pointer (some ⟨bx, 0, none⟩)])
  td : ∃ tv, w.cell? ⟨tb, 0, none⟩ = some tv ∧ w.ownsRow B 3 1 tv S.length (S.map iv)
  fz : w.frozen? ⟨tb, 0, none⟩ = false
  hl : lb < B
  ht : tb < B
  hB : B ≤ w.heap.size
  ne : lb ≠ tb
set_option maxRecDepth 100000 in
set_option maxHeartbeats 1000000 in
theorem c58 (g cap bx ga n c B lb tb : Nat) (lv : Nat → Nat) (X S : List Nat) (w : World) (L : Nat) (hE : SE w g bx ga n c lv) (hd : DAt w g X) (hn : ∀ x ∈ X, x < n) (hL : X.length = L) (hs : S.length + L ≤ 1099511627776)
    (hP : PS w B lb tb bx S) (hg : g < B) (hgl : g ≠ lb) (hgt : g ≠ tb) :
    Calls Try.prog 58 #[.slice (some ⟨g, 0, none⟩) L cap, .pointer (some ⟨lb, 0, none⟩), .pointer (some ⟨tb, 0, none⟩)] w
      fun e w' => e = .returned (.tuple #[]) ∧ PS w' B lb tb bx (S ++ (stab (kf lv) X).reverse) ∧ Keep w.heap.size (fun k => k = g ∨ k = tb ∨ ∃ tv, w.cell? ⟨tb, 0, none⟩ = some tv ∧ tv.ownBlock = some k) w w' := by
  obtain ⟨i0, hi, hz0, hz1, hz2⟩ := info_parts info3
  have HI := Lib.hid (And.intro hi (And.intro hz0 (And.intro hz1 hz2)))
  have lo := hP.lo
  have HC := Lib.hid (c59 g cap bx ga n c lv X w L hE hd hn hL (by omega))
  have HP := Lib.hid hP
  have HL := Lib.hid hL
  have HG := Lib.hid (And.intro hg (And.intro hgl hgt))
  clear hE hd hn hL hP hg hgl hgt hi hz0 hz1 hz2
  go_enter Try.func58, Try.ntmps58
  go_wp2_with fail
  go_at_call 59
  refine HC.out.mono fun e w1 ⟨he, d1, o1⟩ => ?_
  subst he
  have HC2 := Lib.hid (c60 g cap (stab (kf lv) X) w1 L d1 (by rw [stab_length, HL.out]) (by omega))
  have H1 := Lib.hid (And.intro d1 o1)
  clear d1 o1 HC lo
  go_wp2_with fail
  go_at_call 60
  refine HC2.out.mono fun e w2 ⟨he, d2, o2⟩ => ?_
  subst he
  obtain ⟨tv, ht1, ht2⟩ := HP.out.td
  have O := H1.out.2.trans o2
  have HTV := Lib.hid ht1
  have bT := O.block tb (by have := HP.out.ht; have := HP.out.hB; omega) (fun e => HG.out.2.2 e.symm)
  have to2 := (World.cell?_of_block (w := w) (a := ⟨tb, 0, none⟩) bT).trans ht1
  have fz2 := (World.frozen?_of_block (w := w) (a := ⟨tb, 0, none⟩) bT).trans HP.out.fz
  have OW := O.owned ht2 HG.out.1
  have HOW := Lib.hid (And.intro OW O)
  have H2 := Lib.hid d2
  have hsz : B ≤ w2.heap.size := Nat.le_trans HP.out.hB O.size
  clear ht1 ht2 O bT OW d2 o2 H1 HC2
  go_wp2_with (at_builtin; refine wpList_append_own _ rfl _ _ 58 rfl B 3 i0 (.int .i64 0) 1 8 Try.underlying58 HI.out.1 HI.out.2.1 HI.out.2.2.1 HI.out.2.2.2 rfl (by decide) _ _ _ rfl HOW.out.1 ⟨g, 0, none⟩ L cap ((stab (kf lv) X).reverse.map iv) rfl ?c0 ?c1 iv_one ?c3 ?c4 ?c5 ?_)
  case c0 => rw [List.length_map, List.length_reverse, stab_length, HL.out, Nat.mul_one]
  case c1 => intro j u hj; rw [Addr.add_lit]; exact H2.out.r j u hj
  case c3 => unfold maxLen; omega
  case c4 => omega
  case c5 => exact hsz
  intro v3 w3 hown hgrow _
  obtain ⟨p3, c3, rfl, -⟩ := owned_slice hown
  have K2 := grown_keep HOW.out.1 hgrow hsz (fun _ => False)
  have ct := (K2.cell (p := ⟨tb, 0, none⟩) HP.out.ht (fun h => h)).trans to2
  have ft := (K2.frozen (p := ⟨tb, 0, none⟩) HP.out.ht (fun h => h)).trans fz2
  have K0 : Keep w.heap.size (fun k => k = g ∨ k = tb ∨ ∃ tv, w.cell? ⟨tb, 0, none⟩ = some tv ∧ tv.ownBlock = some k) w w3 :=
    (Keep.of_only HOW.out.2 (Nat.le_refl _) (fun _ => Or.inl rfl)).trans (Keep.of_grown2 hgrow HOW.out.2.size (fun k hk => Or.inr (Or.inr ⟨tv, HTV.out, hk⟩)))
  have K4 := Lib.hid (K0.set ⟨tb, 0, none⟩ (.slice p3 (S.length + L) c3) (fun _ => Or.inr (Or.inl rfl)))
  have R4 := Lib.hid (owned_set hown (p := ⟨tb, 0, none⟩) HP.out.ht (.slice p3 (S.length + L) c3))
  have L3 := Lib.hid (Nat.le_trans hsz hgrow.size)
  have FT := Lib.hid (And.intro ct ft)
  clear hown hgrow K2 K0 to2 fz2
  go_wp2
  go_end0
  refine ⟨rfl, ⟨?_, ⟨.slice p3 (S.length + L) c3, World.cell?_setCell_same _ _ _ FT.out.1, ?_⟩, (World.frozen?_setCell ..).trans FT.out.2, HP.out.hl, HP.out.ht, by have := L3.out; simpa [World.setCell] using this, HP.out.ne⟩, K4.out⟩
  · exact (K4.out.cell (p := ⟨lb, 0, none⟩) (Nat.lt_of_lt_of_le HP.out.hl HP.out.hB) (fun h => by
      rcases h with h | h | ⟨tv, h1, h2⟩
      · exact HG.out.2.1 h.symm
      · exact HP.out.ne h
      · obtain ⟨tv2, h3, h4⟩ := HP.out.td
        rw [h3] at h1
        injection h1 with h1
        subst h1
        exact absurd HP.out.hl (Nat.not_lt.2 (h4.lt _ h2).1))).trans HP.out.lo
  · have := R4.out
    rw [List.length_append, List.length_reverse, stab_length, HL.out, List.map_append, List.map_reverse]
    exact this
set_option maxRecDepth 100000 in
set_option maxHeartbeats 1000000 in
theorem c58n (bx B lb tb : Nat) (S : List Nat) (w : World) (hP : PS w B lb tb bx S) :
    Calls Try.prog 58 #[.slice none 0 0, .pointer (some ⟨lb, 0, none⟩), .pointer (some ⟨tb, 0, none⟩)] w
      fun e w' => e = .returned (.tuple #[]) ∧ PS w' B lb tb bx S ∧ Keep w.heap.size (fun k => k = tb) w w' := by
  obtain ⟨i0, hi, hz0, hz1, hz2⟩ := info_parts info3
  have HI := Lib.hid hi
  have lo := hP.lo
  have HP := Lib.hid hP
  clear hi hz0 hz1 hz2 hP
  go_enter Try.func58, Try.ntmps58
  go_wp2_with fail
  go_at_call 59
  refine (c59n _ _).mono fun e w1 ⟨he, hw⟩ => ?_
  subst he hw
  go_wp2_with fail
  go_at_call 60
  refine (c60n _).mono fun e w1 ⟨he, hw⟩ => ?_
  subst he hw
  obtain ⟨tv, ht1, ht2⟩ := HP.out.td
  have fz := HP.out.fz
  have OW := Lib.hid ht2
  rcases ht2.2 with ⟨rfl, hn0⟩ | ⟨p3, c3, cur, rfl, h2, h3, h4, h5⟩
  · have K4 := Lib.hid ((Keep.refl w1.heap.size (fun k => k = tb) w1).set ⟨tb, 0, none⟩ (.slice none 0 0) (fun _ => rfl))
    have R4 := Lib.hid (owned_set OW.out (p := ⟨tb, 0, none⟩) HP.out.ht (.slice none 0 0))
    have FT := Lib.hid (And.intro ht1 fz)
    clear ht2
    go_wp2
    go_end0
    refine ⟨rfl, ⟨?_, ⟨.slice none 0 0, World.cell?_setCell_same _ _ _ FT.out.1, R4.out⟩, (World.frozen?_setCell ..).trans FT.out.2, HP.out.hl, HP.out.ht, by have := HP.out.hB; simpa [World.setCell] using this, HP.out.ne⟩, K4.out⟩
    exact (K4.out.cell (p := ⟨lb, 0, none⟩) (Nat.lt_of_lt_of_le HP.out.hl HP.out.hB) (fun h => HP.out.ne h)).trans HP.out.lo
  · have K4 := Lib.hid ((Keep.refl w1.heap.size (fun k => k = tb) w1).set ⟨tb, 0, none⟩ (.slice (some ⟨p3, 0, none⟩) S.length c3) (fun _ => rfl))
    have R4 := Lib.hid (owned_set OW.out (p := ⟨tb, 0, none⟩) HP.out.ht (.slice (some ⟨p3, 0, none⟩) S.length c3))
    have FT := Lib.hid (And.intro ht1 fz)
    clear ht2 h5 h3 h2
    go_wp2
    go_end0
    refine ⟨rfl, ⟨?_, ⟨.slice (some ⟨p3, 0, none⟩) S.length c3, World.cell?_setCell_same _ _ _ FT.out.1, R4.out⟩, (World.frozen?_setCell ..).trans FT.out.2, HP.out.hl, HP.out.ht, by have := HP.out.hB; simpa [World.setCell] using this, HP.out.ne⟩, K4.out⟩
    exact (K4.out.cell (p := ⟨lb, 0, none⟩) (Nat.lt_of_lt_of_le HP.out.hl HP.out.hB) (fun h => HP.out.ne h)).trans HP.out.lo
end Go.Proofs.Ytedkbjimofiphaa

namespace Go.Proofs.Ytedkbjimofiphaa
open Go.RowKit Fl
section
variable {P : Program} {w : World}
theorem append_strong (base : Nat) (t ty e : TypeId) (i : TypeInfo) (z : Value) (size bytes : Nat) (ht : P.underlying t = some (.slice e)) (hi : P.info? e = some i) (hz : i.zero = some z)
    (hsize : i.size = size) (hby : i.bytes = bytes) (hzs : z.cells.size = size) (hsz : 0 < size) (v : Value) (n : Nat) (xs : List Value) (hown : w.ownsRow base e size v n xs)
    (a : Addr) (m c : Nat) (news : List Value) (hl : news.length = m * size) (hnews : ∀ j u, news[j]? = some u → w.cell? (a.add j) = some u) (h1 : ∀ u ∈ news, u.oneCell' = true)
    (h63 : n + m ≤ maxLen) (hbytes : (n + m) * bytes ≤ 140737488355328) (hbase : base ≤ w.heap.size) (hm : 0 < m) :
    ∃ v' w', (Builtin.append_ #[t, t] ty #[v, .slice (some a) m c]).run P w = .ok v' w' ∧ w'.ownsRow base e size v' (n + m) (xs ++ news) ∧ w.grownBy w' v.ownBlock ∧
      (v'.ownBlock = v.ownBlock ∨ (v'.ownBlock = some w.heap.size ∧ Below w.heap.size w w')) := by
  obtain ⟨v', w', hr, h2, h3, -⟩ := run_append_own (P := P) w base t ty e i z size bytes ht hi hz hsize hby hzs hsz v n xs hown a m c news hl hnews h1 h63 hbytes hbase
  refine ⟨v', w', hr, h2, h3, ?_⟩
  have h63' : n + m ≤ 9223372036854775807 := by unfold maxLen at h63; omega
  subst hsize hby
  rcases hown.2 with ⟨rfl, rfl⟩ | ⟨g, cap, cur, rfl, hbg, hg, hnc, hcm, hcs, htake⟩
  · have hr2 := run_append_nil (P := P) w t ty e i z ht hi hz a m c news hl hnews hm (by omega) (by rw [Nat.zero_add] at hbytes; omega)
    rw [hr] at hr2
    injection hr2 with hv hw
    subst hv hw
    exact Or.inr ⟨rfl, (Below.refl _ _).drew.alloc (Nat.le_refl _) _⟩
  · by_cases hroom : n + m ≤ cap
    · have hfit : n * i.size + news.length ≤ cur.size := by rw [hl, hcs, ← Nat.add_mul]; exact Nat.mul_le_mul_right _ hroom
      have hr2 := run_append_room (P := P) w t ty e i ht hi g n cap cur hg a m c news hl hnews h1 hroom hfit
      rw [hr] at hr2
      injection hr2 with hv hw
      subst hv
      exact Or.inl rfl
    · have holds : ∀ j u, xs[j]? = some u → w.cell? ((⟨g, 0, none⟩ : Addr).add j) = some u := hown.cells (g := g) rfl
      have hr2 := run_append_grow (P := P) w t ty e i z ht hi hz ⟨g, 0, none⟩ n cap xs hown.1 holds a m c news hl hnews (by omega) (by omega) (growslice_fits (by omega) hbytes)
      rw [hr] at hr2
      injection hr2 with hv hw
      subst hv hw
      exact Or.inr ⟨rfl, (Below.refl _ _).drew.alloc (Nat.le_refl _) _⟩
theorem wpList_append_strong {ops : Array Oper} {rest : List Oper} {o : Oper} {b : Act} {Q : Exit → Act → World → Prop} (hgd : o.guard = none) (s x : Operand) (t : TypeId)
    (ho : o.op = .call { callee := .builtin .append, args := #[s, x], argTypes := #[t, t] })
    (base : Nat) (e : TypeId) (i : TypeInfo) (z : Value) (size bytes : Nat) (ht : P.underlying t = some (.slice e)) (hi : P.info? e = some i) (hz : i.zero = some z)
    (hsize : i.size = size) (hby : i.bytes = bytes) (hzs : z.cells.size = size) (hsz : 0 < size) (v : Value) (n : Nat) (xs : List Value) (hs : b.eval s = v) (hown : w.ownsRow base e size v n xs)
    (a : Addr) (m c : Nat) (news : List Value) (hx : b.eval x = .slice (some a) m c) (hl : news.length = m * size) (hnews : ∀ j u, news[j]? = some u → w.cell? (a.add j) = some u) (h1 : ∀ u ∈ news, u.oneCell' = true)
    (h63 : n + m ≤ maxLen) (hbytes : (n + m) * bytes ≤ 140737488355328) (hbase : base ≤ w.heap.size) (hm : 0 < m)
    (h : ∀ v' w', w'.ownsRow base e size v' (n + m) (xs ++ news) → w.grownBy w' v.ownBlock → (v'.ownBlock = v.ownBlock ∨ (v'.ownBlock = some w.heap.size ∧ Below w.heap.size w w')) → wpList P ops Q rest (b.put o.dst v') w') : wpList P ops Q (o :: rest) b w := by
  refine wpList_plain hgd fun K hK => ?_
  obtain ⟨v', w', hr, h2, h3, h4⟩ := append_strong (P := P) base t o.type e i z size bytes ht hi hz hsize hby hzs hsz v n xs hown a m c news hl hnews h1 h63 hbytes hbase hm
  unfold Oper.wp execOp
  simp only [ho, resolve, invoke, builtin, Sem.run_bind, Sem.run_pure, Result.andThen_ok, List.map_toArray, List.map_cons, List.map_nil, hs, hx, hr]
  exact hK _ _ (h v' w' h2 h3 h4)
end
theorem owned_rebase {base base' size n : Nat} {e : TypeId} {v : Value} {xs : List Value} {w : World} (ho : w.ownsRow base e size v n xs) (h : ∀ g, v.ownBlock = some g → base' ≤ g) : w.ownsRow base' e size v n xs := by
  refine ⟨ho.1, ?_⟩
  rcases ho.2 with h1 | ⟨g, cap, cur, rfl, h2, h3, h4⟩
  · exact Or.inl h1
  · exact Or.inr ⟨g, cap, cur, rfl, h g rfl, h3, h4⟩
/-- a slice of boxes' numbers: nil where there is none -/
def KV (w : World) (v : Value) (d : List Nat) : Prop := (v = .slice none 0 0 ∧ d = []) ∨ ∃ g c, v = .slice (some ⟨g, 0, none⟩) d.length c ∧ DAt w g d
theorem KV.keep {B : Nat} {ex : Nat → Prop} {w w' : World} {v : Value} {d : List Nat} (h : KV w v d) (hk : Keep B ex w w') (hb : ∀ k, v.ownBlock = some k → k < B ∧ ¬ ex k) : KV w' v d := by
  rcases h with h | ⟨g, c, rfl, hd⟩
  · exact Or.inl h
  · exact Or.inr ⟨g, c, rfl, hk.dat hd (hb g rfl).1 (hb g rfl).2⟩
/-- push, of whatever slice -/
theorem c58k {w : World} {bx ga n c B lb tb : Nat} {lv : Nat → Nat} {X S : List Nat} {v : Value} (hc : CE w bx ga n c lv) (hv : KV w v X) (hn : ∀ x ∈ X, x < n) (hs : S.length + X.length ≤ 1099511627776) (hP : PS w B lb tb bx S)
    (hb : ∀ g, v.ownBlock = some g → g < B ∧ g ≠ lb ∧ g ≠ tb ∧ bx ≠ g ∧ ga ≠ g) :
    Calls Try.prog 58 #[v, .pointer (some ⟨lb, 0, none⟩), .pointer (some ⟨tb, 0, none⟩)] w
      fun e w' => e = .returned (.tuple #[]) ∧ PS w' B lb tb bx (S ++ (stab (kf lv) X).reverse) ∧ Keep w.heap.size (fun k => v.ownBlock = some k ∨ k = tb ∨ ∃ tv, w.cell? ⟨tb, 0, none⟩ = some tv ∧ tv.ownBlock = some k) w w' := by
  rcases hv with ⟨rfl, rfl⟩ | ⟨g, cap, rfl, hd⟩
  · refine (c58n bx B lb tb S w hP).mono fun e w' ⟨he, h1, h2⟩ => ⟨he, ?_, h2.mono (Nat.le_refl _) fun k _ h => Or.inr (Or.inl h)⟩
    rw [stab_nil, List.reverse_nil, List.append_nil]
    exact h1
  · obtain ⟨b1, b2, b3, b4, b5⟩ := hb g rfl
    exact (c58 g cap bx ga n c B lb tb lv X S w X.length ⟨hc, b4, b5⟩ hd hn rfl hs hP b1 b2 b3).mono fun e w' ⟨he, h1, h2⟩ => ⟨he, h1, h2.mono (Nat.le_refl _) fun k _ h => by
      rcases h with rfl | h | h
      · exact Or.inl rfl
      · exact Or.inr (Or.inl h)
      · exact Or.inr (Or.inr h)⟩
theorem PS.keep {w w' : World} {B lb tb bx : Nat} {S : List Nat} {N : Nat} {ex : Nat → Prop} (h : PS w B lb tb bx S) (hk : Keep N ex w w') (hN : w.heap.size = N) (h1 : ¬ ex lb) (h2 : ¬ ex tb)
    (h3 : ∀ tv k, w.cell? ⟨tb, 0, none⟩ = some tv → tv.ownBlock = some k → ¬ ex k) : PS w' B lb tb bx S := by
  subst hN
  obtain ⟨tv, t1, t2⟩ := h.td
  have bl := Nat.lt_of_lt_of_le h.hl h.hB
  have bt := Nat.lt_of_lt_of_le h.ht h.hB
  exact ⟨(hk.cell (p := ⟨lb, 0, none⟩) bl h1).trans h.lo, ⟨tv, (hk.cell (p := ⟨tb, 0, none⟩) bt h2).trans t1, owned_at t2 fun k hk2 hl => hk.block k hl (h3 tv k t1 hk2)⟩, (hk.frozen (p := ⟨tb, 0, none⟩) bt h2).trans h.fz, h.hl, h.ht, Nat.le_trans h.hB hk.size, h.ne⟩
/-- the last one taken off the stack -/
theorem PS.pop {w : World} {B lb tb bx i : Nat} {S : List Nat} (h : PS w B lb tb bx (S ++ [i])) : ∃ tg c, w.cell? ⟨tb, 0, none⟩ = some (.slice (some ⟨tg, 0, none⟩) (S.length + 1) c) ∧ w.cell? ⟨tg, S.length, none⟩ = some (.int .i64 (i : Int)) ∧ S.length + 1 ≤ c ∧
    PS (w.setCell ⟨tb, 0, none⟩ (.slice (some ⟨tg, 0, none⟩) S.length c)) B lb tb bx S := by
  obtain ⟨tv, t1, t2⟩ := h.td
  have hl : (S ++ [i]).length = S.length + 1 := by simp
  rcases t2.2 with ⟨rfl, h0⟩ | ⟨g, cap, cur, rfl, h2, h3, h4, h5, h6, h7⟩
  · rw [hl] at h0; omega
  · rw [hl] at t1 t2 h4 h7
    refine ⟨g, cap, t1, ?_, h4, ?_⟩
    · have := t2.cells (g := g) rfl S.length (iv i) (by rw [List.map_append, List.getElem?_append_right (by rw [List.length_map]; omega), List.length_map, Nat.sub_self]; rfl)
      rwa [Addr.add_lit, Nat.zero_add] at this
    · have ow : w.ownsRow B 3 1 (.slice (some ⟨g, 0, none⟩) S.length cap) S.length (S.map iv) := by
        refine ⟨by simp, Or.inr ⟨g, cap, cur, rfl, h2, h3, by omega, h5, h6, ?_⟩⟩
        have e := congrArg (List.take S.length) h7
        rw [List.take_take, List.map_append, List.take_left' (by simp), Nat.min_eq_left (by omega)] at e
        rw [Nat.mul_one]
        exact e
      refine ⟨(World.cell?_setCell_other _ _ _ _ (by intro e; injection e with e _; exact h.ne e.symm)).trans h.lo, ⟨_, World.cell?_setCell_same _ _ _ t1, owned_set ow h.ht _⟩, (World.frozen?_setCell ..).trans h.fz, h.hl, h.ht, by simpa [World.setCell] using h.hB, h.ne⟩
end Go.Proofs.Ytedkbjimofiphaa
