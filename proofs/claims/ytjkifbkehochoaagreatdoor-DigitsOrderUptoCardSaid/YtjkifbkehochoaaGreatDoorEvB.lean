/- The evaluator of closed calls, part EvB. -/
import Derived.Test.YtjkifbkehochoaaGreatDoorEvA
set_option linter.unusedSimpArgs false
set_option linter.unusedVariables false
namespace Go.Proofs.YtjkifbkehochoaaGreatDoor.Ev

noncomputable def cellsV (v : Value) : List Value := match v with
  | .agg cs => cs.toList
  | v => [v]
theorem cellsV_eq (v : Value) : cellsV v = v.cells.toList := by cases v <;> rfl
theorem VR.cells {φ : Ren} {v v' : Value} (h : VR φ v v') : LR φ (cellsV v) v'.cells.toList := by
  cases h with
  | agg hl h => exact ⟨hl, h⟩
  | bool b => exact LR.cons (.bool b) LR.nil
  | int k n => exact LR.cons (.int k n) LR.nil
  | float k b => exact LR.cons (.float k b) LR.nil
  | complex k a b => exact LR.cons (.complex k a b) LR.nil
  | string s => exact LR.cons (.string s) LR.nil
  | nilFunc => exact LR.cons .nilFunc LR.nil
  | nilIface => exact LR.cons .nilIface LR.nil
  | ptr0 => exact LR.cons .ptr0 LR.nil
  | ptr h => exact LR.cons (.ptr h) LR.nil
  | sl0 n c => exact LR.cons (.sl0 n c) LR.nil
  | sl h hc => exact LR.cons (.sl h hc) LR.nil
  | map0 => exact LR.cons .map0 LR.nil
  | map h => exact LR.cons (.map h) LR.nil
  | chan0 => exact LR.cons .chan0 LR.nil
  | yld l => exact LR.cons (.yld l) LR.nil
  | iface t h => exact LR.cons (.iface t h) LR.nil
  | tuple hl h => exact LR.cons (.tuple hl h) LR.nil
  | func fn hl h kl k => exact LR.cons (.func fn hl h kl k) LR.nil
theorem foldl_set (off : Nat) : ∀ (vs : List Value) (k : Nat) (cells : Array Value), off + k + vs.length ≤ cells.size →
    ((vs.zipIdx k).foldl (fun cs p => cs.setIfInBounds (off + p.2) p.1) cells).size = cells.size ∧
    ∀ i, ((vs.zipIdx k).foldl (fun cs p => cs.setIfInBounds (off + p.2) p.1) cells)[i]? = if off + k ≤ i ∧ i < off + k + vs.length then vs[i - (off + k)]? else cells[i]?
  | [], k, cells, h => by
    simp
    intro i h1 h2
    omega
  | v :: vs, k, cells, h => by
    simp only [List.zipIdx_cons, List.foldl_cons]
    obtain ⟨h1, h2⟩ := foldl_set off vs (k + 1) (cells.setIfInBounds (off + k) v) (by rw [Array.size_setIfInBounds]; simp only [List.length_cons] at h; omega)
    refine ⟨by rw [h1]; simp, fun i => ?_⟩
    rw [h2 i]
    simp only [List.length_cons] at h ⊢
    by_cases hi : i = off + k
    · subst hi
      rw [if_neg (by omega), if_pos (by omega), Nat.sub_self, Array.getElem?_setIfInBounds_self_of_lt (by omega)]
      rfl
    · by_cases hc : off + (k + 1) ≤ i ∧ i < off + (k + 1) + vs.length
      · rw [if_pos hc, if_pos (by omega), show i - (off + k) = (i - (off + (k + 1))) + 1 by omega]
        simp
      · rw [if_neg hc, if_neg (by omega)]
        rw [Array.getElem?_setIfInBounds_ne (by omega)]
noncomputable def fillV (place : Nat → Option (Nat × Nat)) : List Value → List (Nat × Value) → Option (List Value)
  | cells, [] => some cells
  | cells, (i, v) :: rest => ob (place i) fun p => match Nat.beq (cellsV v).length p.2 with
    | true => ob (over cells p.1 (cellsV v)) fun r => fillV place r rest
    | false => none
def PR (φ : Ren) (a b : List (Nat × Value)) : Prop := a.length = b.length ∧ ∀ (i : Nat) (x y : Nat × Value), a[i]? = some x → b[i]? = some y → x.1 = y.1 ∧ VR φ x.2 y.2
theorem fill_sim {φ : Ren} {place : Nat → Option (Nat × Nat)} : ∀ {parts parts' : List (Nat × Value)} {cells r : List Value} {cells' : Array Value}, PR φ parts parts' → LR φ cells cells'.toList → fillV place cells parts = some r →
    ∃ r', Instr.fill place cells' parts' = some r' ∧ LR φ r r'.toList
  | [], parts', cells, r, cells', hp, hc, h => by
    cases parts' with
    | nil => cases h; exact ⟨cells', rfl, hc⟩
    | cons y l => have := hp.1; simp at this
  | (i, v) :: rest, parts', cells, r, cells', hp, hc, h => by
    cases parts' with
    | nil => have := hp.1; simp at this
    | cons y l =>
      obtain ⟨j, v'⟩ := y
      obtain ⟨h1, h2⟩ := hp.2 0 (i, v) (j, v') rfl rfl
      cases h1
      simp only at h2
      simp only [fillV] at h
      replace h := ob_some h
      obtain ⟨p, hpl, h⟩ := h
      split at h
      · rename_i hb
        replace h := ob_some h
        obtain ⟨r1, ho, h⟩ := h
        have hcl := h2.cells
        have hlen : v'.cells.size = p.2 := by
          have := hcl.1
          rw [Nat.eq_of_beq_eq_true hb] at this
          simpa using this.symm
        obtain ⟨q1, q2, q3⟩ := over_spec _ _ _ _ ho
        have hcs := hc.1
        have hcl1 := hcl.1
        simp only [Array.length_toList] at hcs hcl1
        obtain ⟨f1, f2⟩ := foldl_set p.1 v'.cells.toList 0 cells' (by simp; omega)
        have hL : LR φ r1 ((v'.cells.toList.zipIdx 0).foldl (fun cs p' => cs.setIfInBounds (p.1 + p'.2) p'.1) cells').toList := by
          refine ⟨by simp [q1, f1, hcs], fun i x y hx hy => ?_⟩
          rw [q3] at hx
          have hy : ((v'.cells.toList.zipIdx 0).foldl (fun cs p' => cs.setIfInBounds (p.1 + p'.2) p'.1) cells')[i]? = some y := by simpa using hy
          rw [f2] at hy
          simp only [Nat.add_zero, Array.length_toList] at hy
          rw [hcl1] at hx
          split at hx
          · rename_i hcond
            rw [if_pos hcond] at hy
            exact hcl.2 _ x y hx hy
          · rename_i hcond
            rw [if_neg hcond] at hy
            exact hc.2 i x y hx (by simpa using hy)
        obtain ⟨r', g1, g2⟩ := fill_sim (parts' := l) ⟨by have := hp.1; simpa using this, fun i x y hx hy => hp.2 (i + 1) x y (by simpa using hx) (by simpa using hy)⟩ hL h
        refine ⟨r', ?_, g2⟩
        rw [← g1]
        simp only [Instr.fill, hpl]
        rw [if_neg (by simp; omega)]
        congr 1
        rw [← Array.foldl_toList, Array.toList_zipIdx]
      · cases h
theorem mapO_mapM {α β : Type} (f : α → Option β) : ∀ (l : List α), mapO f l = l.mapM f
  | [] => rfl
  | x :: l => by
    rw [mapO_cons, List.mapM_cons, mapO_mapM f l]
    cases f x with
    | none => rfl
    | some y => cases l.mapM f <;> rfl
noncomputable def placesV (P : Program) (fs : List Field) : Option (List (Nat × Nat)) := mapO (fun f => ob (sizeB P f.type) fun s => some (f.offset, s)) fs
noncomputable def buildV (P : Program) (t : TypeId) (parts : List (Nat × Value)) : Option Value :=
  ob (zeroB P t) fun z => match P.underlying t with
    | some (.struct fields) => ob (placesV P fields.toList) fun ps => ob (fillV (fun i => nth ps i) (cellsV z) parts) fun cs => some (.agg ⟨cs⟩)
    | some (.array _ e) => ob (sizeB P e) fun s => ob (fillV (fun i => some (i * s, s)) (cellsV z) parts) fun cs => some (.agg ⟨cs⟩)
    | _ => none
theorem zeroB_info {P : Program} {t : TypeId} {z : Value} (h : zeroB P t = some z) : ∃ i, P.info? t = some i ∧ i.zero = some z ∧ plain 20 z = true := by
  unfold zeroB at h
  cases hu : P.info? t with
  | none => rw [hu] at h; cases h
  | some i =>
    rw [hu] at h
    simp only at h
    cases hz : i.zero with
    | none => rw [hz] at h; cases h
    | some z' =>
      rw [hz] at h
      simp only at h
      split at h
      · rename_i hp
        rw [plainF_eq] at hp
        cases h; exact ⟨i, rfl, hz, hp⟩
      · cases h
theorem sizeB_info {P : Program} {t : TypeId} {s : Nat} (h : sizeB P t = some s) : ∃ i, P.info? t = some i ∧ i.size = s := by
  unfold sizeB at h
  cases hu : P.info? t with
  | none => rw [hu] at h; cases h
  | some i => rw [hu] at h; cases h; exact ⟨i, rfl, rfl⟩
theorem buildV_run {P : Program} {φ : Ren} {t : TypeId} {parts : List (Nat × Value)} {parts' : Array (Nat × Value)} {v : Value} (hp : PR φ parts parts'.toList) (h : buildV P t parts = some v) :
    ∃ v', VR φ v v' ∧ ∀ w, (Instr.build t parts').run P w = .ok v' w := by
  unfold buildV at h
  replace h := ob_some h
  obtain ⟨z, hz, h⟩ := h
  obtain ⟨iz, hiz, hzz, hzp⟩ := zeroB_info hz
  have hzc := (VR.self (φ := φ) 20 z hzp).cells
  split at h
  · rename_i fields hu
    replace h := ob_some h
    obtain ⟨ps, hps, h⟩ := h
    replace h := ob_some h
    obtain ⟨cs, hcs, h⟩ := h
    cases h
    obtain ⟨r', h1, h2⟩ := fill_sim hp hzc hcs
    refine ⟨.agg r', VR.ofAgg h2, fun w => run_build w t parts' r' ?_⟩
    have hps' : fields.toList.mapM (fun f => (P.info? f.type).map fun i => (f.offset, i.size)) = some ps := by
      rw [← hps, placesV, mapO_mapM]
      congr 1
      funext f
      unfold sizeB
      cases P.info? f.type <;> rfl
    unfold Program.built
    simp only [hiz, hu, hzz, hps']
    rw [← h1]
    congr 1
    funext i
    simp [nth_eq]
  · rename_i n e hu
    replace h := ob_some h
    obtain ⟨s, hs, h⟩ := h
    replace h := ob_some h
    obtain ⟨cs, hcs, h⟩ := h
    cases h
    obtain ⟨r', h1, h2⟩ := fill_sim hp hzc hcs
    obtain ⟨ie, hie, his⟩ := sizeB_info hs
    refine ⟨.agg r', VR.ofAgg h2, fun w => run_build w t parts' r' ?_⟩
    unfold Program.built
    simp only [hiz, hu, hzz, hie, his]
    exact h1
  · cases h

/-- equality -/
noncomputable def eqV (P : Program) (C : Nat → Option Blk) : Nat → TypeId → Value → Value → Option Bool
  | 0, _, _, _ => none
  | d + 1, t, x, y => match P.underlying t, x, y with
    | some .bool, .bool a, .bool b => some (a == b)
    | some (.int _), .int k a, .int k' b => if k = k' then some (a == b) else none
    | some (.float _), .float k a, .float k' b => if k = k' then some (Op.floatEq k a b) else none
    | some .string, .string a, .string b => some (a.data.toList == b.data.toList)
    | some (.pointer _), .pointer none, .pointer b => some b.isNone
    | some (.pointer _), .pointer (some _), .pointer none => some false
    | some (.pointer e), .pointer (some ⟨i, o, none⟩), .pointer (some ⟨j, q, none⟩) => match sizeB P e, Nat.beq i j, C i, C j with
      | some (_ + 1), true, _, _ => some (Nat.beq o q)
      | some (_ + 1), false, some (.cells _ _ _ none), some (.cells _ _ _ none) => some false
      | _, _, _, _ => none
    | some (.interface _), .nilIface, .nilIface => some true
    | some (.interface _), .nilIface, .iface _ _ | some (.interface _), .iface _ _, .nilIface => some false
    | some (.interface _), .iface tx vx, .iface ty vy => match Nat.beq tx ty, P.info? tx with
      | false, _ => some false
      | true, some i => match i.comparable with
        | true => eqV P C d tx vx vy
        | false => none
      | true, none => none
    | some (.slice _), .slice none _ _, .slice b _ _ => some b.isNone
    | some (.slice _), .slice (some _) _ _, .slice none _ _ => some false
    | some (.map _ _), .map none, .map b => some b.isNone
    | some (.map _ _), .map (some _), .map none => some false
    | some (.func _ _ _), .nilFunc, .nilFunc => some true
    | some (.func _ _ _), .nilFunc, .func _ _ _ | some (.func _ _ _), .func _ _ _, .nilFunc => some false
    | _, _, _ => none
theorem toList_beq (a b : ByteArray) : (a == b) = (a.data.toList == b.data.toList) := by
  obtain ⟨⟨x⟩⟩ := a
  obtain ⟨⟨y⟩⟩ := b
  show ((⟨x⟩ : Array UInt8) == ⟨y⟩) = (x == y)
  simp
theorem sameAddr_run {P : Program} {φ : Ren} {C : Nat → Option Blk} {n : Nat} {w : World} (hr : HR φ C n w) {i j b c o q : Nat} (hi : φ i = some b) (hj : φ j = some c) {cs ds : List Value} {e f : TypeId} {ex fx : Option Nat}
    (ci : C i = some (.cells cs e ex none)) (cj : C j = some (.cells ds f fx none)) (hne : i ≠ j) : (sameAddr ⟨b, o, none⟩ ⟨c, q, none⟩).run P w = .ok false w := by
  have hbc : b ≠ c := fun h => by
    subst h
    exact hne (hr.inj i j b hi hj (by rw [ci]; trivial) (by rw [cj]; trivial))
  have r1 := hr.row i b hi
  have r2 := hr.row j c hj
  rw [ci] at r1
  rw [cj] at r2
  obtain ⟨c1, f1, a1, -, -, z1⟩ := r1
  obtain ⟨c2, f2, a2, -, -, z2⟩ := r2
  cases z1
  cases z2
  have fb : ∀ x, w.frozen? ⟨b, x, none⟩ = false := fun x => by simp [World.frozen?, a1]
  have fc : ∀ x, w.frozen? ⟨c, x, none⟩ = false := fun x => by simp [World.frozen?, a2]
  have sb : w.shape? b = some (e, c1.size) := by simp [World.shape?, a1]
  have sc : w.shape? c = some (f, c2.size) := by simp [World.shape?, a2]
  have vb : (viewAt b).run P w = .ok none w := by simp [viewAt, sb]
  have vc : (viewAt c).run P w = .ok none w := by simp [viewAt, sc]
  have tb : (stringish ⟨b, o, none⟩).run P w = .ok false w := by simp [stringish, fb, sb]
  have tc : (stringish ⟨c, q, none⟩).run P w = .ok false w := by simp [stringish, fc, sc]
  have hbq : (b == c) = false := by simpa using hbc
  unfold sameAddr
  simp [hbq, fb, noView, vb, vc, mayBeOne, tb, tc, sb, sc]
set_option maxHeartbeats 4000000 in
theorem eqV_run {P : Program} {φ : Ren} {C : Nat → Option Blk} {n : Nat} {w : World} (hr : HR φ C n w) : ∀ (k d : Nat) (t : TypeId) (x y x' y' : Value) (r : Bool), k ≤ d → VR φ x x' → VR φ y y' → eqV P C k t x y = some r →
    (Op.equalIn d t x' y').run P w = .ok r w := by
  intro k
  induction k with
  | zero => intro d t x y x' y' r hd hx hy h; cases h
  | succ k ih =>
    intro d t x y x' y' r hd hx hy h
    obtain ⟨d, rfl⟩ : ∃ m, d = m + 1 := ⟨d - 1, by omega⟩
    unfold eqV at h
    split at h
    · rename_i hu; cases hx; cases hy; cases h; simp [Op.equalIn, run_underlying' hu]
    · rename_i hu; cases hx; cases hy
      split at h
      · rename_i hk; cases h; subst hk; simp [Op.equalIn, run_underlying' hu]
      · cases h
    · rename_i hu; cases hx; cases hy
      split at h
      · rename_i hk; cases h; subst hk; simp [Op.equalIn, run_underlying' hu]
      · cases h
    · rename_i hu; cases hx; cases hy; cases h; simp [Op.equalIn, run_underlying' hu, toList_beq]
    · rename_i hu; cases hx; cases hy <;> (cases h; simp [Op.equalIn, run_underlying' hu])
    · rename_i hu; cases hx; cases hy; cases h; simp [Op.equalIn, run_underlying' hu]
    · rename_i e i o j q hu
      cases hx with
      | ptr hb =>
        cases hy with
        | ptr hc =>
          split at h
          · rename_i s hs hij
            have := Nat.eq_of_beq_eq_true hij
            subst this
            rw [hb] at hc
            cases hc
            cases h
            rename_i b
            simp [Op.equalIn, run_underlying' hu, sizeB_run hs, sameAddr]
            rw [Bool.eq_iff_iff]
            simp
          · rename_i s cs1 e1 x1 cs2 e2 x2 hs hij ci cj
            cases h
            have hne : i ≠ j := fun he => by rw [he, Nat.beq_refl] at hij; cases hij
            have := sameAddr_run (P := P) (o := o) (q := q) hr hb hc ci cj hne
            simp [Op.equalIn, run_underlying' hu, sizeB_run hs, this]
          · cases h
    · rename_i hu; cases hx; cases hy; cases h; simp [Op.equalIn, run_underlying' hu]
    · rename_i hu; cases hx; cases hy; cases h; simp [Op.equalIn, run_underlying' hu]
    · rename_i hu; cases hx; cases hy; cases h; simp [Op.equalIn, run_underlying' hu]
    · rename_i tx vx ty vy hu
      cases hx with
      | iface _ hx =>
        cases hy with
        | iface _ hy =>
          split at h
          · rename_i ht
            cases h
            have hne : tx ≠ ty := fun he => by rw [he, Nat.beq_refl] at ht; cases ht
            simp [Op.equalIn, run_underlying' hu, hne]
          · rename_i i ht hi
            have := Nat.eq_of_beq_eq_true ht
            subst this
            split at h
            · rename_i hcmp
              simp [Op.equalIn, run_underlying' hu, run_typeInfo' hi, hcmp]
              exact ih d tx vx vy _ _ r (by omega) hx hy h
            · cases h
          · cases h
    · rename_i hu; cases hx; cases hy <;> (cases h; simp [Op.equalIn, run_underlying' hu])
    · rename_i hu; cases hx; cases hy; cases h; simp [Op.equalIn, run_underlying' hu]
    · rename_i hu; cases hx; cases hy <;> (cases h; simp [Op.equalIn, run_underlying' hu])
    · rename_i hu; cases hx; cases hy; cases h; simp [Op.equalIn, run_underlying' hu]
    · rename_i hu; cases hx; cases hy; cases h; simp [Op.equalIn, run_underlying' hu]
    · rename_i hu; cases hx; cases hy; cases h; simp [Op.equalIn, run_underlying' hu]
    · rename_i hu; cases hx; cases hy; cases h; simp [Op.equalIn, run_underlying' hu]
    · cases h
end Go.Proofs.YtjkifbkehochoaaGreatDoor.Ev
namespace Go.Proofs.YtjkifbkehochoaaGreatDoor.Ev

noncomputable def bytesV : List Value → Option (List Int)
  | [] => some []
  | .int .u8 n :: l => ob (bytesV l) fun r => some (n :: r)
  | _ => none
theorem bytesV_spec {φ : Ren} {l l' : List Value} {ns : List Int} (h : bytesV l = some ns) (hl : LR φ l l') : l' = ns.map (Value.int .u8) := by
  induction l generalizing l' ns with
  | nil =>
    cases h
    cases l' with
    | nil => rfl
    | cons y l => have := hl.1; simp at this
  | cons x l ih =>
    obtain ⟨y, b', rfl, h1, h2⟩ := hl.uncons
    unfold bytesV at h
    split at h
    · rename_i heq; cases heq
    · rename_i n l0 heq
      cases heq
      replace h := ob_some h
      obtain ⟨r, hr, h⟩ := h
      cases h
      cases h1
      rw [ih hr h2]
      rfl
    · cases h
theorem push_all : ∀ (ns : List Int) (s : List UInt8), ns.foldl (fun (r : ByteArray) n => r.push (UInt8.ofNat n.toNat)) ⟨⟨s⟩⟩ = ⟨⟨s ++ ns.map fun n => UInt8.ofNat n.toNat⟩⟩
  | [], s => by simp
  | n :: ns, s => by
    simp only [List.foldl_cons, List.map_cons]
    have : (⟨⟨s⟩⟩ : ByteArray).push (UInt8.ofNat n.toNat) = ⟨⟨s ++ [UInt8.ofNat n.toNat]⟩⟩ := by
      show (⟨(⟨s⟩ : Array UInt8).push _⟩ : ByteArray) = _
      congr 1
      apply Array.ext'
      simp
    rw [this, push_all ns]
    simp
theorem pureRun_plain {P : Program} {φ : Ren} {s : Sem Value} {v : Value} (h : (ob (pureRun P s) fun r => match plainF r with | true => some r | false => none) = some v) : VR φ v v ∧ ∀ w, s.run P w = .ok v w := by
  replace h := ob_some h
  obtain ⟨r, hr, h⟩ := h
  split at h
  · rename_i hp
    rw [plainF_eq] at hp
    cases h; exact ⟨VR.self 20 _ hp, pureRun_run hr⟩
  · cases h
noncomputable def pureV (P : Program) (s : Sem Value) : Option Value := ob (pureRun P s) fun r => match plainF r with | true => some r | false => none
theorem pureV_run {P : Program} {φ : Ren} {s : Sem Value} {v : Value} (h : pureV P s = some v) : VR φ v v ∧ ∀ w, s.run P w = .ok v w := pureRun_plain h
noncomputable def convV' (P : Program) (C : Nat → Option Blk) (src dst : TypeId) (x : Value) : Option Value :=
  match plainF x with
  | true => pureV P (convert src dst x)
  | false => match P.underlying src, P.underlying dst, x with
    | some (.slice e), some .string, .slice (some ⟨id, off, none⟩) len _ => match P.underlying e with
      | some (.int .u8) => ob (rowAt C id off len) fun l => ob (bytesV l) fun ns => some (.string ⟨⟨ns.map fun n => UInt8.ofNat n.toNat⟩⟩)
      | _ => none
    | _, _, _ => none
theorem convV_run {P : Program} {φ : Ren} {C : Nat → Option Blk} {n : Nat} {w : World} (hr : HR φ C n w) {src dst : TypeId} {x x' v : Value} (hx : VR φ x x') (h : convV' P C src dst x = some v) :
    ∃ v', VR φ v v' ∧ (convert src dst x').run P w = .ok v' w := by
  unfold convV' at h
  split at h
  · rename_i hp
    rw [plainF_eq] at hp
    obtain ⟨h1, h2⟩ := pureV_run (φ := φ) h
    have := VR.same 20 x x' hp hx
    subst this
    exact ⟨v, h1, h2 w⟩
  · rename_i hp0
    split at h
    · rename_i e id off len cap hs hd
      split at h
      · rename_i he
        replace h := ob_some h
        obtain ⟨l, hl, h⟩ := h
        replace h := ob_some h
        obtain ⟨ns, hns, h⟩ := h
        cases h
        cases hx with
        | sl hb hc =>
          obtain ⟨l', h1, h2, h3, h4⟩ := rowAt_run (P := P) hr hb hl
          have := bytesV_spec hns h2
          subst this
          refine ⟨_, .string _, ?_⟩
          rename_i b c'
          have hrun := run_bytesToString (P := P) w ⟨b, off, none⟩ len c' ns h4
          rw [show (ByteArray.empty : ByteArray) = ⟨⟨[]⟩⟩ from rfl, push_all] at hrun
          simp [convert, run_underlying' hs, run_underlying' hd, run_underlying' he]
          simpa using hrun
      · cases h
    · cases h

noncomputable def kindEq : Value → Bool
  | .int _ _ | .float _ _ | .complex _ _ _ | .string _ => false
  | _ => true
theorem binOp_eql {t : TypeId} {a b : Value} (h : kindEq a = true) : binOp .eql t a b = (do pure (.bool (← Op.equal t a b))) := by
  unfold binOp
  cases a <;> simp_all [kindEq]
theorem binOp_neq {t : TypeId} {a b : Value} (h : kindEq a = true) : binOp .neq t a b = (do pure (.bool (!(← Op.equal t a b)))) := by
  unfold binOp
  cases a <;> simp_all [kindEq]
theorem VR.kindEq {φ : Ren} {a b : Value} (h : VR φ a b) : kindEq b = kindEq a := by cases h <;> rfl
/-- wrapping, quickly where nothing is to be wrapped -/
noncomputable def maxNat (k : IntKind) : Nat := match k with
  | .i8 => 127 | .i16 => 32767 | .i32 => 2147483647 | .i64 => 9223372036854775807
  | .u8 => 255 | .u16 => 65535 | .u32 => 4294967295 | .u64 => 18446744073709551615
theorem wrap_small (k : IntKind) (m : Nat) (h : m ≤ maxNat k) : k.wrap (m : Int) = m := by
  unfold IntKind.wrap
  cases k <;> simp only [maxNat] at h <;> simp only [IntKind.bits, IntKind.signed, Bool.true_and, Bool.false_and, Nat.reduceSub, Bool.false_eq_true, if_false, decide_eq_true_eq]
  all_goals first
    | omega
    | (rw [if_neg (fun hd => by have := of_decide_eq_true hd; omega)]; omega)
noncomputable def wrapF (k : IntKind) (n : Int) : Int := match n with
  | .ofNat m => match Nat.ble m (maxNat k) with
    | true => .ofNat m
    | false => k.wrap (.ofNat m)
  | .negSucc m => k.wrap (.negSucc m)
theorem wrapF_eq (k : IntKind) (n : Int) : wrapF k n = k.wrap n := by
  unfold wrapF
  split
  · split
    · rename_i h; exact (wrap_small k _ (Nat.le_of_ble_eq_true h)).symm
    · rfl
  · rfl
noncomputable def eqI (a b : Int) : Bool := match a, b with
  | .ofNat m, .ofNat n => Nat.beq m n
  | .negSucc m, .negSucc n => Nat.beq m n
  | _, _ => false
theorem eqI_eq (a b : Int) : eqI a b = (a == b) := by
  rw [Bool.eq_iff_iff]
  cases a <;> cases b <;> simp [eqI] <;> omega
noncomputable def ltI (a b : Int) : Bool := match a, b with
  | .ofNat m, .ofNat n => Nat.ble (Nat.add m 1) n
  | .negSucc m, .negSucc n => Nat.ble (Nat.add n 1) m
  | .negSucc _, .ofNat _ => true
  | .ofNat _, .negSucc _ => false
theorem ltI_eq (a b : Int) : ltI a b = decide (a < b) := by
  unfold ltI
  rw [Bool.eq_iff_iff]
  split <;> simp <;> omega
noncomputable def addI (a b : Int) : Int := match a, b with
  | .ofNat m, .ofNat n => .ofNat (Nat.add m n)
  | a, b => a + b
theorem addI_eq (a b : Int) : addI a b = a + b := by
  unfold addI
  split <;> rfl
noncomputable def subI (a b : Int) : Int := match a, b with
  | .ofNat m, .ofNat n => match Nat.ble n m with
    | true => .ofNat (Nat.sub m n)
    | false => Int.ofNat m - Int.ofNat n
  | a, b => a - b
theorem subI_eq (a b : Int) : subI a b = a - b := by
  unfold subI
  split
  · split
    · rename_i h
      have := Nat.le_of_ble_eq_true h
      simp
      omega
    · rfl
  · rfl
noncomputable def intV (P : Program) (op : BinOp) (t : TypeId) (j : IntKind) (a : Int) (k : IntKind) (b : Int) : Option Value :=
  match decide (j = k) with
  | true => match op with
    | .add => some (.int j (wrapF j (addI a b)))
    | .sub => some (.int j (wrapF j (subI a b)))
    | .eql => some (.bool (eqI a b))
    | .neq => some (.bool (!(eqI a b)))
    | .lss => some (.bool (ltI a b))
    | .leq => some (.bool (!(ltI b a)))
    | .gtr => some (.bool (ltI b a))
    | .geq => some (.bool (!(ltI a b)))
    | op => pureV P (binOp op t (.int j a) (.int k b))
  | false => pureV P (binOp op t (.int j a) (.int k b))
theorem not_lt_le (a b : Int) : (!decide (a < b)) = decide (b ≤ a) := by
  rw [Bool.eq_iff_iff]
  simp
theorem intV_run {P : Program} {φ : Ren} {op : BinOp} {t : TypeId} {j k : IntKind} {a b : Int} {v : Value} (h : intV P op t j a k b = some v) : VR φ v v ∧ ∀ w, (binOp op t (.int j a) (.int k b)).run P w = .ok v w := by
  unfold intV at h
  split at h
  · rename_i hjk
    have hjk := of_decide_eq_true hjk
    subst hjk
    split at h
    · cases h; exact ⟨.int _ _, fun w => by rw [wrapF_eq, addI_eq]; simp [binOp, Op.intArith]⟩
    · cases h; exact ⟨.int _ _, fun w => by rw [wrapF_eq, subI_eq]; simp [binOp, Op.intArith]⟩
    · cases h; exact ⟨.bool _, fun w => by rw [eqI_eq]; simp [binOp, Op.intCmp]⟩
    · cases h; exact ⟨.bool _, fun w => by rw [eqI_eq]; simp [binOp, Op.intCmp, bne]⟩
    · cases h; exact ⟨.bool _, fun w => by rw [ltI_eq]; simp [binOp, Op.intCmp]⟩
    · cases h; exact ⟨.bool _, fun w => by rw [ltI_eq, not_lt_le]; simp [binOp, Op.intCmp]⟩
    · cases h; exact ⟨.bool _, fun w => by rw [ltI_eq]; simp [binOp, Op.intCmp]⟩
    · cases h; exact ⟨.bool _, fun w => by rw [ltI_eq, not_lt_le]; simp [binOp, Op.intCmp]⟩
    · exact pureV_run h
  · exact pureV_run h
noncomputable def binV (P : Program) (C : Nat → Option Blk) (op : BinOp) (t : TypeId) (x y : Operand) (a b : Value) : Option Value :=
  match a, b with
  | .int j a, .int k b => intV P op t j a k b
  | .float j a, .float k b => pureV P (binOp op t (.float j a) (.float k b))
  | .string a, .string b => match op with
    | .add => match Nat.ble (a.data.toList.length + b.data.toList.length) 1000000000 with
      | true => some (.string ⟨⟨a.data.toList ++ b.data.toList⟩⟩)
      | false => none
    | .eql => some (.bool (a.data.toList == b.data.toList))
    | .neq => some (.bool (!(a.data.toList == b.data.toList)))
    | _ => none
  | .agg a, .agg b => match plain 20 (.agg a), plain 20 (.agg b) with
    | true, true => pureV P (do eqGuard op t x y (.agg a) (.agg b); binOp op t (.agg a) (.agg b))
    | _, _ => none
  | .nilIface, .nilIface => match op, x, y with
    | .eql, .const _, _ | .eql, _, .const _ => ob (eqV P C 10 t .nilIface .nilIface) fun r => some (.bool r)
    | .neq, .const _, _ | .neq, _, .const _ => ob (eqV P C 10 t .nilIface .nilIface) fun r => some (.bool !r)
    | _, _, _ => none
  | .agg _, _ | _, .agg _ => none
  | a, b => match op, kindEq a with
    | .eql, true => ob (eqV P C 10 t a b) fun r => some (.bool r)
    | .neq, true => ob (eqV P C 10 t a b) fun r => some (.bool !r)
    | _, _ => none
theorem eqGuard_none {P : Program} {w : World} (op : BinOp) (t : TypeId) (x y : Operand) (a b : Value) (h1 : a ≠ .nilIface ∨ b ≠ .nilIface) (h2 : (∀ c, a ≠ .agg c) ∨ ∀ c, b ≠ .agg c) : (eqGuard op t x y a b).run P w = .ok () w := by
  unfold eqGuard
  rw [Sem.run_ite]
  split <;> simp only [Bool.not_true, Bool.not_false, Bool.false_eq_true, if_false, if_true, Sem.run_pure]
  all_goals
    split
    · rcases h1 with h | h <;> exact (h rfl).elim
    · rcases h2 with h | h <;> exact (h _ rfl).elim
    · rfl
theorem eqGuard_x {P : Program} {w : World} (op : BinOp) (t : TypeId) (c : Value) (y : Operand) : (eqGuard op t (.const c) y .nilIface .nilIface).run P w = .ok () w := by
  cases op <;> rfl
theorem eqGuard_y {P : Program} {w : World} (op : BinOp) (t : TypeId) (c : Value) (x : Operand) : (eqGuard op t x (.const c) .nilIface .nilIface).run P w = .ok () w := by
  cases op <;> cases x <;> rfl
theorem equal_run {P : Program} {φ : Ren} {C : Nat → Option Blk} {n : Nat} {w : World} (hr : HR φ C n w) {t : TypeId} {x y x' y' : Value} {r : Bool} (hx : VR φ x x') (hy : VR φ y y') (h : eqV P C 10 t x y = some r) :
    (Op.equal t x' y').run P w = .ok r w := eqV_run hr 10 10000 t x y x' y' r (by decide) hx hy h

theorem VR.int' {φ : Ren} {k : IntKind} {n : Int} {v : Value} (h : VR φ (.int k n) v) : v = .int k n := by cases h; rfl
theorem binV_run {P : Program} {φ : Ren} {C : Nat → Option Blk} {n : Nat} {w : World} (hr : HR φ C n w) {op : BinOp} {t : TypeId} {x y : Operand} {a b a' b' v : Value} (ha : VR φ a a') (hb : VR φ b b') (h : binV P C op t x y a b = some v) :
    ∃ v', VR φ v v' ∧ (do eqGuard op t x y a' b'; binOp op t a' b').run P w = .ok v' w := by
  unfold binV at h
  split at h
  · rename_i j a k b
    cases ha; cases hb
    obtain ⟨h1, h2⟩ := intV_run (φ := φ) h
    exact ⟨v, h1, by simp [eqGuard_none (P := P) (w := w) op t x y (.int j a) (.int k b) (.inl (by simp)) (.inl (by simp)), h2 w]⟩
  · rename_i j a k b
    cases ha; cases hb
    obtain ⟨h1, h2⟩ := pureV_run (φ := φ) h
    exact ⟨v, h1, by simp [eqGuard_none (P := P) (w := w) op t x y (.float j a) (.float k b) (.inl (by simp)) (.inl (by simp)), h2 w]⟩
  · rename_i a b
    cases ha; cases hb
    have hg := eqGuard_none (P := P) (w := w) op t x y (.string a) (.string b) (.inl (by simp)) (.inl (by simp))
    split at h
    · split at h
      · rename_i hle
        cases h
        refine ⟨_, .string _, ?_⟩
        have hle := Nat.le_of_ble_eq_true hle
        have e : (⟨⟨a.data.toList ++ b.data.toList⟩⟩ : ByteArray) = a ++ b := by
          apply ByteArray.ext
          apply Array.ext'
          simp
        have hsz : ¬ (((a.size + b.size : Nat) : Int) > IntKind.i64.max) := by
          have e1 : a.size = a.data.toList.length := rfl
          have e2 : b.size = b.data.toList.length := rfl
          have : IntKind.i64.max = 9223372036854775807 := by decide
          rw [this, e1, e2]
          omega
        simp only [Sem.run_bind, hg, Result.andThen_ok]
        rw [e]
        unfold binOp Op.stringOp
        simp only [if_neg hsz]
        rfl
      · cases h
    · cases h
      refine ⟨_, .bool _, ?_⟩
      simp only [Sem.run_bind, hg, Result.andThen_ok]
      unfold binOp Op.stringOp
      simp [ByteArray.toList_eq]
    · cases h
      refine ⟨_, .bool _, ?_⟩
      simp only [Sem.run_bind, hg, Result.andThen_ok]
      unfold binOp Op.stringOp
      simp [ByteArray.toList_eq]
    · cases h
  · rename_i a b
    split at h
    · rename_i p1 p2
      have e1 := VR.same 20 _ _ p1 ha
      have e2 := VR.same 20 _ _ p2 hb
      subst e1 e2
      obtain ⟨h1, h2⟩ := pureV_run (φ := φ) h
      exact ⟨v, h1, h2 w⟩
    · cases h
  · cases ha; cases hb
    split at h
    all_goals first | (cases h; done) | skip
    all_goals
      replace h := ob_some h
      obtain ⟨r, hr', h⟩ := h
      cases h
      have he := equal_run (P := P) hr .nilIface .nilIface hr'
      refine ⟨_, .bool _, ?_⟩
      first
        | (rw [binOp_eql rfl]; simp only [Sem.run_bind, eqGuard_x, eqGuard_y, Result.andThen_ok, he, Sem.run_pure]; done)
        | (rw [binOp_neq rfl]; simp only [Sem.run_bind, eqGuard_x, eqGuard_y, Result.andThen_ok, he, Sem.run_pure]; done)
  · cases h
  · cases h
  · rename_i n1 n2 n3 n4 n5 n6 n7
    have hg := eqGuard_none (P := P) (w := w) op t x y a' b' (by
        by_cases h1 : a' = .nilIface
        · by_cases h2 : b' = .nilIface
          · subst h1 h2
            cases ha; cases hb
            exact (n7 rfl rfl).elim
          · exact .inr h2
        · exact .inl h1) (.inl fun c hc => by subst hc; cases ha; exact n1 _ rfl)
    split at h
    · rename_i hk
      replace h := ob_some h
      obtain ⟨r, hr', h⟩ := h
      cases h
      refine ⟨_, .bool r, ?_⟩
      rw [binOp_eql (ha.kindEq.trans hk)]
      simp [hg, equal_run (P := P) hr ha hb hr']
    · rename_i hk
      replace h := ob_some h
      obtain ⟨r, hr', h⟩ := h
      cases h
      refine ⟨_, .bool _, ?_⟩
      rw [binOp_neq (ha.kindEq.trans hk)]
      simp [hg, equal_run (P := P) hr ha hb hr']
    · cases h
end Go.Proofs.YtjkifbkehochoaaGreatDoor.Ev
namespace Go.Proofs.YtjkifbkehochoaaGreatDoor.Ev

noncomputable def entriesV (C : Nat → Option Blk) (m : Option Nat) : Option (List MapEntry × Nat) := match m with
  | none => some ([], 0)
  | some r => match C r with
    | some (.obj (.map es c)) => some (es.toList, c)
    | _ => none
noncomputable def findV (kind : TypeDesc) (k : Value) : List MapEntry → Nat → Option (Option (Nat × Value))
  | [], _ => some none
  | e :: es, i => match kind, k, e.key with
    | .int _, .int j a, .int j' b => if j = j' then (match a == b with | true => some (some (i, e.val)) | false => findV kind k es (i + 1)) else none
    | .string, .string a, .string b => match a.data.toList == b.data.toList with | true => some (some (i, e.val)) | false => findV kind k es (i + 1)
    | .bool, .bool a, .bool b => match a == b with | true => some (some (i, e.val)) | false => findV kind k es (i + 1)
    | _, _, _ => none
noncomputable def keyKind : TypeDesc → Bool
  | .int _ | .string | .bool => true
  | _ => false
def ESR (φ : Ren) (a b : List MapEntry) : Prop := a.length = b.length ∧ ∀ (i : Nat) (x y : MapEntry), a[i]? = some x → b[i]? = some y → ER φ x y
theorem VR.str' {φ : Ren} {s : ByteArray} {v : Value} (h : VR φ (.string s) v) : v = .string s := by cases h; rfl
theorem VR.bool' {φ : Ren} {b : Bool} {v : Value} (h : VR φ (.bool b) v) : v = .bool b := by cases h; rfl
theorem findV_run {φ : Ren} {kind : TypeDesc} {k k' : Value} (hk : VR φ k k') : ∀ {es es' : List MapEntry} {i : Nat} {r : Option (Nat × Value)}, ESR φ es es' → findV kind k es i = some r →
    ∃ r', Instr.findNow kind k' es' i = some r' ∧ (match r, r' with | none, none => True | some (a, v), some (b, u) => a = b ∧ VR φ v u | _, _ => False)
  | [], es', i, r, hes, h => by
    cases es' with
    | nil => cases h; exact ⟨none, rfl, trivial⟩
    | cons y l => have := hes.1; simp at this
  | e :: es, es', i, r, hes, h => by
    cases es' with
    | nil => have := hes.1; simp at this
    | cons e' es' =>
      obtain ⟨hke, hve, -⟩ := hes.2 0 e e' rfl rfl
      have hrest : ESR φ es es' := ⟨by have := hes.1; simpa using this, fun i x y hx hy => hes.2 (i + 1) x y (by simpa using hx) (by simpa using hy)⟩
      simp only [findV] at h
      simp only [Instr.findNow]
      split at h
      · rename_i q j a j' b heq
        rw [heq] at hke
        cases hk
        have he' := hke.int'
        split at h
        · rename_i hj
          subst hj
          simp only [Instr.sameNow, he', if_true]
          split at h
          · rename_i hab
            cases h
            simp only [hab]
            exact ⟨_, rfl, rfl, hve⟩
          · rename_i hab
            simp only [hab]
            exact findV_run (.int _ _) hrest h
        · cases h
      · rename_i a b heq
        rw [heq] at hke
        cases hk
        have he' := hke.str'
        simp only [Instr.sameNow, he', toList_beq]
        split at h
        · rename_i hab
          cases h
          simp only [hab]
          exact ⟨_, rfl, rfl, hve⟩
        · rename_i hab
          simp only [hab]
          exact findV_run (.string _) hrest h
      · rename_i a b heq
        rw [heq] at hke
        cases hk
        have he' := hke.bool'
        simp only [Instr.sameNow, he']
        split at h
        · rename_i hab
          cases h
          simp only [hab]
          exact ⟨_, rfl, rfl, hve⟩
        · rename_i hab
          simp only [hab]
          exact findV_run (.bool _) hrest h
      · cases h
theorem entriesV_run {P : Program} {φ : Ren} {C : Nat → Option Blk} {n : Nat} {w : World} (hr : HR φ C n w) {m : Option Nat} {v' : Value} {es : List MapEntry × Nat} (hm : VR φ (.map m) v') (h : entriesV C m = some es) :
    (m = none ∧ v' = .map none ∧ es = ([], 0)) ∨ ∃ r b es' c, m = some r ∧ φ r = some b ∧ v' = .map (some b) ∧ C r = some (.obj (.map ⟨es.1⟩ es.2)) ∧ w.heap[b]? = some (.map es' c) ∧ c = es.2 ∧ ESR φ es.1 es'.toList := by
  unfold entriesV at h
  split at h
  · cases h; cases hm; exact .inl ⟨rfl, rfl, rfl⟩
  · rename_i r
    split at h
    · rename_i es0 c hC
      cases h
      cases hm with
      | map hb =>
        rename_i b
        have hrow := hr.row r b hb
        rw [hC] at hrow
        obtain ⟨o, ho, hor⟩ := hrow
        cases o with
        | map es' c' =>
          obtain ⟨h1, h2, h3⟩ := hor
          exact .inr ⟨r, b, es', c', rfl, hb, rfl, hC, ho, h1.symm, by simpa using h2, fun i x y hx hy => h3 i x y (by simpa using hx) (by simpa using hy)⟩
        | _ => exact hor.elim
    · cases h

/-- what an operation gives that writes nothing -/
noncomputable def tupOk (ok : Bool) (v : Value) (b : Bool) : Value := match ok with
  | true => .tuple ⟨[v, .bool b]⟩
  | false => v
theorem tupOk_eq (ok : Bool) (v : Value) (b : Bool) : (if ok then Value.tuple #[v, .bool b] else v) = tupOk ok v b := by cases ok <;> rfl
theorem tupOk_VR {φ : Ren} {ok b : Bool} {v v' : Value} (h : VR φ v v') : VR φ (tupOk ok v b) (tupOk ok v' b) := by
  cases ok
  · exact h
  · exact VR.ofTuple (LR.cons h (LR.cons (.bool b) LR.nil))
noncomputable def optR (ρ : Operand → Option Value) (x : Option Operand) : Option (Option Value) := match x with
  | none => some none
  | some y => ob (ρ y) fun v => some (some v)
theorem optR_run {φ : Ren} {ρ : Operand → Option Value} {ρ' : Operand → Value} (hρ : ∀ x v, ρ x = some v → VR φ v (ρ' x)) {x : Option Operand} {r : Option Value} (h : optR ρ x = some r) : VO φ r (x.map ρ') := by
  unfold optR at h
  split at h
  · cases h; exact .none
  · replace h := ob_some h
    obtain ⟨v, hv, h⟩ := h
    cases h
    exact .some (hρ _ _ hv)
noncomputable def lenV (P : Program) (C : Nat → Option Blk) (t : TypeId) (x : Value) : Option Value := match P.underlying t, x with
  | some .string, .string s => some (.int .i64 s.data.toList.length)
  | some (.slice _), .slice _ n _ => some (.int .i64 n)
  | some (.map _ _), .map m => ob (entriesV C m) fun e => some (.int .i64 e.1.length)
  | _, _ => none
theorem lenV_run {P : Program} {φ : Ren} {C : Nat → Option Blk} {n : Nat} {w : World} (hr : HR φ C n w) {t ty : TypeId} {x x' v : Value} {ts : Array TypeId} {args : Array Value} (hts : ts[0]? = some t) (ha : args[0]? = some x') (hx : VR φ x x') (h : lenV P C t x = some v) :
    ∃ v', VR φ v v' ∧ (Builtin.len_ ts ty args).run P w = .ok v' w := by
  unfold lenV at h
  split at h
  · rename_i s hu
    cases hx; cases h
    refine ⟨_, .int _ _, ?_⟩
    unfold Builtin.len_
    rw [hts, ha]
    simp only [Sem.run_bind, run_underlying' hu, Result.andThen_ok]
    rfl
  · rename_i hu
    cases h
    cases hx with
    | sl0 => exact ⟨_, .int _ _, by simp [Builtin.len_, hts, ha, run_underlying' hu, goInt]⟩
    | sl hb hc => exact ⟨_, .int _ _, by simp [Builtin.len_, hts, ha, run_underlying' hu, goInt]⟩
  · rename_i m hu
    replace h := ob_some h
    obtain ⟨e, he, h⟩ := h
    cases h
    rcases entriesV_run (P := P) hr hx he with ⟨rfl, rfl, rfl⟩ | ⟨r, b, es', c, rfl, hb, rfl, -, ho, hc, hes⟩
    · exact ⟨_, .int _ _, by simp [Builtin.len_, hts, ha, run_underlying' hu, goInt]⟩
    · refine ⟨_, .int _ _, ?_⟩
      have := hes.1
      simp [Builtin.len_, hts, ha, run_underlying' hu, goInt, getObj, Sem.run, ho]
      simp at this
      omega
  · cases h
noncomputable def evV (P : Program) (C : Nat → Option Blk) (ρ : Operand → Option Value) (o : Oper) : Option Value :=
  match o.op with
  | .move x | .assign x => ρ x
  | .pick c a b => match ρ c with
    | some (.bool true) => ρ a
    | some (.bool false) => ρ b
    | _ => none
  | .build t parts => ob (mapO (fun p => ob (ρ p.2) fun v => some (p.1, v)) parts.toList) fun ps => buildV P t ps
  | .load t x => ob (ρ x) fun a => loadV P C t a
  | .nilCheck x => match ρ x with
    | some (.pointer (some a)) => some (.pointer (some a))
    | some (.iface t v) => some (.iface t v)
    | some (.func (.func f) a b) => some (.func (.func f) a b)
    | _ => none
  | .binOp op t x y _ => ob (ρ x) fun a => ob (ρ y) fun b => binV P C op t x y a b
  | .unOp op _ x => ob (ρ x) fun v => match plainF v with
    | true => pureV P (Op.unary op v)
    | false => none
  | .convert s d x => ob (ρ x) fun v => convV' P C s d v
  | .makeInterface t x => ob (ρ x) fun v => match P.underlying t with
    | some (.interface _) => none
    | some _ => some (.iface t v)
    | none => none
  | .makeFunc fn a b => ob (mapO ρ a.toList) fun x => ob (mapO ρ b.toList) fun y => some (.func fn ⟨x⟩ ⟨y⟩)
  | .slice t x lo hi mx => ob (ρ x) fun v => ob (optR ρ lo) fun lo => ob (optR ρ hi) fun hi => ob (optR ρ mx) fun mx => sliceV P t v lo hi mx
  | .fieldAddr s x f => match P.underlying s, ρ x with
    | some (.struct fields), some (.pointer (some ⟨id, off, none⟩)) => ob (nth fields.toList f) fun f => match sizeB P f.type with
      | some (_ + 1) => some (.pointer (some ⟨id, off + f.offset, none⟩))
      | _ => none
    | _, _ => none
  | .field t x f => match P.underlying t, ρ x with
    | some (.struct fields), some (.agg cs) => ob (nth fields.toList f) fun f => partV P f.type cs.toList f.offset
    | _, _ => none
  | .indexAddr t x i => match P.underlying t, ρ x, ρ i with
    | some (.array n e), some (.pointer (some ⟨id, off, none⟩)), some (.int _ i) => if 0 ≤ i ∧ i < (n : Int) then ob (sizeB P e) fun s => some (.pointer (some ⟨id, off + i.toNat * s, none⟩)) else none
    | some (.slice e), some (.slice (some ⟨id, off, none⟩) n _), some (.int _ i) => if 0 ≤ i ∧ i < (n : Int) then ob (sizeB P e) fun s => some (.pointer (some ⟨id, off + i.toNat * s, none⟩)) else none
    | _, _, _ => none
  | .index t x i => match P.underlying t, ρ x, ρ i with
    | some (.array n e), some (.agg cs), some (.int _ i) => if 0 ≤ i ∧ i < (n : Int) then ob (sizeB P e) fun s => partV P e cs.toList (i.toNat * s) else none
    | some .string, some (.string s), some (.int _ i) => if 0 ≤ i then ob (nth s.data.toList i.toNat) fun b => some (.int .u8 b.toNat) else none
    | _, _, _ => none
  | .lookup t x k ok => match P.underlying t, ρ x, ρ k with
    | some (.map kt e), some (.map m), some k => match P.underlying kt with
      | some kd => match keyKind kd with
        | true => ob (entriesV C m) fun es => ob (findV kd k es.1 0) fun r => match r with
          | some (_, v) => some (tupOk ok v true)
          | none => ob (zeroB P e) fun z => some (tupOk ok z false)
        | false => none
      | none => none
    | _, _, _ => none
  | .typeAssert x _ want ok => match P.underlying want, ρ x with
    | some (.interface ms), some (.iface t v) => ob (P.info? t) fun i => match Instr.missingMethod ms i.methods with
      | none => some (tupOk ok (.iface t v) true)
      | some _ => match ok with
        | true => ob (zeroB P want) fun z => some (.tuple ⟨[z, .bool false]⟩)
        | false => none
    | some _, some .nilIface => match ok with
      | true => ob (zeroB P want) fun z => some (.tuple ⟨[z, .bool false]⟩)
      | false => none
    | some _, some (.iface t v) => match Nat.beq t want with
      | true => some (tupOk ok v true)
      | false => match ok with
        | true => ob (zeroB P want) fun z => some (.tuple ⟨[z, .bool false]⟩)
        | false => none
    | _, _ => none
  | .extract x i => match ρ x with
    | some (.tuple vs) => nth vs.toList i
    | _ => none
  | .call c => match c.callee with
    | .builtin .len => ob (mapO ρ c.args.toList) fun args => ob (nth args 0) fun x => ob (nth c.argTypes.toList 0) fun t => lenV P C t x
    | .builtin .max => ob (mapO ρ c.args.toList) fun args => match plainAll args with
      | true => pureV P (Builtin.max_ c.argTypes o.type ⟨args⟩)
      | false => none
    | .builtin .min => ob (mapO ρ c.args.toList) fun args => match plainAll args with
      | true => pureV P (Builtin.min_ c.argTypes o.type ⟨args⟩)
      | false => none
    | _ => none
  | _ => none
theorem parts_run {φ : Ren} {ρ : Operand → Option Value} {ρ' : Operand → Value} (hρ : ∀ x v, ρ x = some v → VR φ v (ρ' x)) {parts : Array (Nat × Operand)} {ps : List (Nat × Value)} (h : mapO (fun p => ob (ρ p.2) fun v => some (p.1, v)) parts.toList = some ps) :
    PR φ ps (parts.map fun (i, x) => (i, ρ' x)).toList := by
  obtain ⟨h1, h2⟩ := mapO_spec h
  refine ⟨by simp [h1], fun i x y hx hy => ?_⟩
  simp only [Array.toList_map, List.getElem?_map] at hy
  cases hz : parts.toList[i]? with
  | none => rw [hz] at hy; cases hy
  | some z =>
    rw [hz] at hy
    cases hy
    obtain ⟨u, hu, hf⟩ := h2 i z hz
    rw [hx] at hu
    cases hu
    replace hf := ob_some hf
    obtain ⟨v, hv, hf⟩ := hf
    cases hf
    exact ⟨rfl, hρ _ _ hv⟩
theorem args_run {φ : Ren} {ρ : Operand → Option Value} {ρ' : Operand → Value} (hρ : ∀ x v, ρ x = some v → VR φ v (ρ' x)) {xs : Array Operand} {r : List Value} (h : mapO ρ xs.toList = some r) : LR φ r (xs.map ρ').toList := by
  rw [Array.toList_map]
  exact LR.of_mapO hρ h
theorem exec_value {P : Program} {ρ' : Operand → Value} {o : Oper} {s : Sem Value} {v : Value} {w w' : World} (h : execOp ρ' o = (do pure (.value (← s)))) (hs : s.run P w = .ok v w') : (execOp ρ' o).run P w = .ok (.value v) w' := by
  rw [h]
  simp [hs]
theorem evV_run {P : Program} {φ : Ren} {C : Nat → Option Blk} {n : Nat} {w : World} (hr : HR φ C n w) {ρ : Operand → Option Value} {ρ' : Operand → Value} (hρ : ∀ x v, ρ x = some v → VR φ v (ρ' x)) {o : Oper} {v : Value} (h : evV P C ρ o = some v) :
    ∃ v', VR φ v v' ∧ (execOp ρ' o).run P w = .ok (.value v') w := by
  obtain ⟨dst, op, ty, pos, after, guard⟩ := o
  unfold evV at h
  simp only at h
  cases op <;> simp only at h <;> first | (cases h; done) | skip
  case move x => exact ⟨_, hρ _ _ h, rfl⟩
  case assign x => exact ⟨_, hρ _ _ h, rfl⟩
  case pick c a b =>
    split at h
    · rename_i hc
      have e := (hρ _ _ hc).bool'
      exact ⟨_, hρ _ _ h, by simp [execOp, e, asBool]⟩
    · rename_i hc
      have e := (hρ _ _ hc).bool'
      exact ⟨_, hρ _ _ h, by simp [execOp, e, asBool]⟩
    · cases h
  case build t parts =>
    replace h := ob_some h
    obtain ⟨ps, hps, h⟩ := h
    obtain ⟨v', h1, h2⟩ := buildV_run (parts_run hρ hps) h
    exact ⟨v', h1, exec_value rfl (h2 w)⟩
  case load t x =>
    replace h := ob_some h
    obtain ⟨a, ha, h⟩ := h
    obtain ⟨a', h1, v', h2, h3⟩ := loadV_run (P := P) hr (hρ _ _ ha) h
    refine ⟨v', h2, exec_value (s := Instr.loadAt t (ρ' x)) rfl ?_⟩
    rw [h1]
    simp [Instr.loadAt, Instr.sureAddr, h3]
  case nilCheck x =>
    split at h
    · rename_i hx
      cases h
      have := hρ _ _ hx
      generalize hy : ρ' x = y at this
      cases this with
      | ptr hb => exact ⟨_, .ptr hb, by simp [execOp, hy]⟩
    · rename_i hx
      cases h
      have := hρ _ _ hx
      generalize hy : ρ' x = y at this
      cases this with
      | iface _ hb => exact ⟨_, .iface _ hb, by simp [execOp, hy]⟩
    · rename_i hx
      cases h
      have := hρ _ _ hx
      generalize hy : ρ' x = y at this
      cases this with
      | func fn hl h kl k => exact ⟨_, .func _ hl h kl k, by simp [execOp, hy]⟩
    · cases h
  case binOp op t x y yt =>
    replace h := ob_some h
    obtain ⟨a, ha, h⟩ := h
    replace h := ob_some h
    obtain ⟨b, hb, h⟩ := h
    obtain ⟨v', h1, h2⟩ := binV_run (P := P) hr (hρ _ _ ha) (hρ _ _ hb) h
    exact ⟨v', h1, exec_value rfl h2⟩
  case unOp op t x =>
    replace h := ob_some h
    obtain ⟨a, ha, h⟩ := h
    split at h
    · rename_i hp
      rw [plainF_eq] at hp
      obtain ⟨h1, h2⟩ := pureV_run (φ := φ) h
      have := VR.same 20 _ _ hp (hρ _ _ ha)
      subst this
      exact ⟨v, h1, exec_value rfl (h2 w)⟩
    · cases h
  case convert s d x =>
    replace h := ob_some h
    obtain ⟨a, ha, h⟩ := h
    obtain ⟨v', h1, h2⟩ := convV_run (P := P) hr (hρ _ _ ha) h
    exact ⟨v', h1, exec_value rfl h2⟩
  case makeInterface t x =>
    replace h := ob_some h
    obtain ⟨a, ha, h⟩ := h
    split at h
    · cases h
    · rename_i d hd hni
      cases h
      refine ⟨_, .iface t (hρ _ _ ha), exec_value rfl ?_⟩
      simp only [Instr.makeInterface, Sem.run_bind, run_underlying' hni, Result.andThen_ok]
      first
        | rfl
        | (split
           · rename_i ms hms
             exact (hd ms rfl).elim
           · rfl)
    · cases h
  case makeFunc fn a b =>
    replace h := ob_some h
    obtain ⟨x, hx, h⟩ := h
    replace h := ob_some h
    obtain ⟨y, hy, h⟩ := h
    cases h
    have h1 := args_run hρ hx
    have h2 := args_run hρ hy
    exact ⟨.func fn (a.map ρ') (b.map ρ'), .func fn h1.1 h1.2 h2.1 h2.2, rfl⟩
  case slice t x lo hi mx =>
    replace h := ob_some h
    obtain ⟨a, ha, h⟩ := h
    replace h := ob_some h
    obtain ⟨l, hl, h⟩ := h
    replace h := ob_some h
    obtain ⟨u, hu, h⟩ := h
    replace h := ob_some h
    obtain ⟨m, hm, h⟩ := h
    obtain ⟨v', h1, h2⟩ := sliceV_run (hρ _ _ ha) (optR_run hρ hl) (optR_run hρ hu) (optR_run hρ hm) h
    exact ⟨v', h1, exec_value rfl (h2 w)⟩
  case fieldAddr s x f =>
    split at h
    · rename_i fields id off hs hx
      replace h := ob_some h
      obtain ⟨fd, hf, h⟩ := h
      split at h
      · rename_i k hk
        cases h
        have := hρ _ _ hx
        generalize hy : ρ' x = y at this
        cases this with
        | ptr hb =>
          refine ⟨_, .ptr hb, exec_value (s := Instr.fieldAt s (ρ' x) f) rfl ?_⟩
          rw [nth_eq] at hf
          have hf' : fields[f]? = some fd := by simpa using hf
          rw [hy]
          simp [Instr.fieldAt, run_underlying' hs, hf', Instr.sureAddr, fieldPlace, sizeB_run hk, add_none]
      · cases h
    · cases h
  case field t x f =>
    split at h
    · rename_i fields cs ht hx
      replace h := ob_some h
      obtain ⟨fd, hf, h⟩ := h
      have := hρ _ _ hx
      generalize hy : ρ' x = y at this
      cases this with
      | agg hl hh =>
        rename_i a b
        obtain ⟨v', h1, h2⟩ := partV_run (P := P) (b := ⟨b⟩) ⟨hl, hh⟩ h
        refine ⟨v', h1, exec_value (s := Instr.field t (ρ' x) f) rfl ?_⟩
        rw [nth_eq] at hf
        have hf' : fields[f]? = some fd := by simpa using hf
        rw [hy]
        simp [Instr.field, run_underlying' ht, hf', asAgg, h2 w]
    · cases h
  case indexAddr t x i =>
    split at h
    · rename_i len e id off i' ht hx hi
      split at h
      · rename_i hc
        replace h := ob_some h
        obtain ⟨s, hs, h⟩ := h
        cases h
        have h1 := hρ _ _ hx
        have h2 := hρ _ _ hi
        generalize hy : ρ' x = y at h1
        generalize hj : ρ' i = j at h2
        cases h1 with
        | ptr hb =>
          cases h2
          refine ⟨_, .ptr hb, exec_value (s := Instr.indexAt t (ρ' x) (ρ' i)) rfl ?_⟩
          rw [hy, hj]
          simp [Instr.indexAt, asIntOf, run_underlying' ht, Instr.sureAddr, hc, sizeB_run hs, add_none]
      · cases h
    · rename_i e id off len cap i' ht hx hi
      split at h
      · rename_i hc
        replace h := ob_some h
        obtain ⟨s, hs, h⟩ := h
        cases h
        have h1 := hρ _ _ hx
        have h2 := hρ _ _ hi
        generalize hy : ρ' x = y at h1
        generalize hj : ρ' i = j at h2
        cases h1 with
        | sl hb hcap =>
          cases h2
          refine ⟨_, .ptr hb, exec_value (s := Instr.indexAt t (ρ' x) (ρ' i)) rfl ?_⟩
          rw [hy, hj]
          simp [Instr.indexAt, asIntOf, run_underlying' ht, hc, sizeB_run hs, add_none]
      · cases h
    · cases h
  case index t x i =>
    split at h
    · rename_i len e cs i' ht hx hi
      split at h
      · rename_i hc
        replace h := ob_some h
        obtain ⟨s, hs, h⟩ := h
        have h1 := hρ _ _ hx
        have h2 := hρ _ _ hi
        generalize hy : ρ' x = y at h1
        generalize hj : ρ' i = j at h2
        cases h1 with
        | agg hl hh =>
          rename_i a b
          cases h2
          obtain ⟨v', k1, k2⟩ := partV_run (P := P) (b := ⟨b⟩) ⟨hl, hh⟩ h
          refine ⟨v', k1, exec_value (s := Instr.index t (ρ' x) (ρ' i)) rfl ?_⟩
          rw [hy, hj]
          simp [Instr.index, asIntOf, run_underlying' ht, hc, sizeB_run hs, k2 w]
      · cases h
    · rename_i s k i' ht hx hi
      split at h
      · rename_i hc
        replace h := ob_some h
        obtain ⟨b, hb, h⟩ := h
        cases h
        have h1 := hρ _ _ hx
        have h2 := hρ _ _ hi
        generalize hy : ρ' x = y at h1
        generalize hj : ρ' i = j at h2
        cases h1
        cases h2
        refine ⟨_, .int _ _, exec_value (s := Instr.index t (ρ' x) (ρ' i)) rfl ?_⟩
        rw [hy, hj]
        rw [nth_eq] at hb
        have hb' : s[i'.toNat]? = some b := by
          have hlt : i'.toNat < s.size := by
            exact (List.getElem?_eq_some_iff.1 hb).1
          rw [getElem?_pos s i'.toNat hlt]
          have := (List.getElem?_eq_some_iff.1 hb).2
          congr 1
        simp [Instr.index, asIntOf, run_underlying' ht, hc, hb']
      · cases h
    · cases h
  case lookup t x k ok =>
    split at h
    · rename_i kt e m k0 ht hx hk
      split at h
      · rename_i kd hkd
        split at h
        · rename_i hkk
          replace h := ob_some h
          obtain ⟨es, hes, h⟩ := h
          replace h := ob_some h
          obtain ⟨r, hrr, h⟩ := h
          have h1 := hρ _ _ hx
          have h2 := hρ _ _ hk
          generalize hy : ρ' x = y at h1
          generalize hj : ρ' k = j at h2
          have hck : ∀ (b : Bool) (n : Nat), (Instr.checkKey b (n + 1) kt j).run P w = .ok () w := fun b n => by
            unfold Instr.checkKey
            simp only [Sem.run_bind, run_underlying' hkd, Result.andThen_ok]
            cases kd <;> first | (simp [keyKind] at hkk; done) | rfl
          have key : ∀ (es' : List MapEntry), ESR φ es.1 es' → (Instr.findKey kt j es').run P w = (match Instr.findNow kd j es' 0 with | some q => .ok q w | none => (Instr.findAsking kt j es').run P w) := fun es' _ => by
            unfold Instr.findKey
            simp only [Sem.run_bind, run_underlying' hkd, Result.andThen_ok]
            split <;> simp_all
          have fin : ∀ (es' : List MapEntry), ESR φ es.1 es' → ∃ r', (Instr.findKey kt j es').run P w = .ok r' w ∧ ((∃ z u u', r' = some (z, u') ∧ VR φ u u' ∧ v = tupOk ok u true) ∨ (r' = none ∧ ∃ z, zeroB P e = some z ∧ v = tupOk ok z false)) := by
            intro es' hE
            obtain ⟨r', q1, q2⟩ := findV_run h2 hE hrr
            refine ⟨r', by rw [key es' hE, q1], ?_⟩
            cases r with
            | none =>
              cases r' with
              | some z => exact q2.elim
              | none =>
                simp only at h
                replace h := ob_some h
                obtain ⟨z, hz, h⟩ := h
                cases h
                exact .inr ⟨rfl, z, hz, rfl⟩
            | some rv =>
              cases r' with
              | none => exact q2.elim
              | some z =>
                simp only at h
                cases h
                exact .inl ⟨z.1, rv.2, z.2, rfl, q2.2, rfl⟩
          rcases entriesV_run (P := P) hr h1 hes with ⟨rfl, rfl, rfl⟩ | ⟨r1, b, es', c, rfl, hb, rfl, -, ho, hc, hE⟩
          · obtain ⟨r', f1, f2⟩ := fin [] ⟨rfl, fun i x y hx => by simp at hx⟩
            have hx' : execOp ρ' ⟨dst, .lookup t x k ok, ty, pos, after, guard⟩ = (do pure (.value (← Instr.lookup t (.map none) j ok))) := by rw [← hy, ← hj]; rfl
            rcases f2 with ⟨z, u, u', rfl, hu, rfl⟩ | ⟨rfl, z, hz, rfl⟩
            · refine ⟨tupOk ok u' true, tupOk_VR hu, exec_value hx' ?_⟩
              unfold Instr.lookup
              simp only [Sem.run_bind, run_underlying' ht, Result.andThen_ok, Sem.run_pure]
              rw [show (10000 : Nat) = 9999 + 1 from rfl, hck]
              simp only [Result.andThen_ok, show (#[] : Array MapEntry).toList = [] from rfl, f1, Sem.run_pure]
              cases ok <;> rfl
            · obtain ⟨z1, z2⟩ := zeroB_run hz w
              refine ⟨tupOk ok z false, tupOk_VR (VR.self 20 z z2), exec_value hx' ?_⟩
              unfold Instr.lookup
              simp only [Sem.run_bind, run_underlying' ht, Result.andThen_ok, Sem.run_pure]
              rw [show (10000 : Nat) = 9999 + 1 from rfl, hck]
              simp only [Result.andThen_ok, show (#[] : Array MapEntry).toList = [] from rfl, f1, Sem.run_bind, z1, Sem.run_pure]
              cases ok <;> rfl
          · obtain ⟨r', f1, f2⟩ := fin es'.toList hE
            have hx' : execOp ρ' ⟨dst, .lookup t x k ok, ty, pos, after, guard⟩ = (do pure (.value (← Instr.lookup t (.map (some b)) j ok))) := by rw [← hy, ← hj]; rfl
            have hg : (getObj b).run P w = .ok (.map es' c) w := by simp [getObj, Sem.run, ho]
            rcases f2 with ⟨z, u, u', rfl, hu, rfl⟩ | ⟨rfl, z, hz, rfl⟩
            · refine ⟨tupOk ok u' true, tupOk_VR hu, exec_value hx' ?_⟩
              unfold Instr.lookup
              simp only [Sem.run_bind, run_underlying' ht, Result.andThen_ok, hg, Sem.run_pure]
              rw [show (10000 : Nat) = 9999 + 1 from rfl, hck]
              simp only [Result.andThen_ok, f1, Sem.run_pure]
              cases ok <;> rfl
            · obtain ⟨z1, z2⟩ := zeroB_run hz w
              refine ⟨tupOk ok z false, tupOk_VR (VR.self 20 z z2), exec_value hx' ?_⟩
              unfold Instr.lookup
              simp only [Sem.run_bind, run_underlying' ht, Result.andThen_ok, hg, Sem.run_pure]
              rw [show (10000 : Nat) = 9999 + 1 from rfl, hck]
              simp only [Result.andThen_ok, f1, Sem.run_bind, z1, Sem.run_pure]
              cases ok <;> rfl
        · cases h
      · cases h
    · cases h
  case typeAssert x xt want ok =>
    split at h
    · rename_i ms t v0 hw hx
      replace h := ob_some h
      obtain ⟨i, hi, h⟩ := h
      have h1 := hρ _ _ hx
      generalize hy : ρ' x = y at h1
      cases h1 with
      | iface _ hv =>
        rename_i v1
        split at h
        · rename_i hm
          cases h
          refine ⟨tupOk ok (.iface t v1) true, tupOk_VR (.iface t hv), exec_value (s := Instr.typeAssert (ρ' x) xt want ok) rfl ?_⟩
          rw [hy]
          simp only [Instr.typeAssert, Sem.run_bind, run_underlying' hw, Result.andThen_ok, run_typeInfo' hi, hm, Sem.run_pure]
          cases ok <;> rfl
        · rename_i mm hm
          split at h
          · replace h := ob_some h
            obtain ⟨z, hz, h⟩ := h
            cases h
            obtain ⟨z1, z2⟩ := zeroB_run hz w
            refine ⟨.tuple ⟨[z, .bool false]⟩, VR.ofTuple (LR.cons (VR.self 20 z z2) (LR.cons (.bool _) LR.nil)), exec_value (s := Instr.typeAssert (ρ' x) xt want true) rfl ?_⟩
            rw [hy]
            simp [Instr.typeAssert, run_underlying' hw, run_typeInfo' hi, hm, z1]
          · cases h
    · rename_i d hw hx
      split at h
      · replace h := ob_some h
        obtain ⟨z, hz, h⟩ := h
        cases h
        have h1 := hρ _ _ hx
        generalize hy : ρ' x = y at h1
        cases h1
        obtain ⟨z1, z2⟩ := zeroB_run hz w
        refine ⟨.tuple ⟨[z, .bool false]⟩, VR.ofTuple (LR.cons (VR.self 20 z z2) (LR.cons (.bool _) LR.nil)), exec_value (s := Instr.typeAssert (ρ' x) xt want true) rfl ?_⟩
        rw [hy]
        cases d <;> simp [Instr.typeAssert, run_underlying' hw, z1]
      · cases h
    · rename_i d t v0 hni hw hx
      have h1 := hρ _ _ hx
      generalize hy : ρ' x = y at h1
      cases h1 with
      | iface _ hv =>
        rename_i v1
        split at h
        · rename_i ht
          cases h
          have := Nat.eq_of_beq_eq_true ht
          subst this
          refine ⟨tupOk ok v1 true, tupOk_VR hv, exec_value (s := Instr.typeAssert (ρ' x) xt t ok) rfl ?_⟩
          rw [hy]
          cases d <;> first
            | (exfalso; first | exact hni _ _ _ rfl hx | exact hni _ rfl)
            | (simp only [Instr.typeAssert, Sem.run_bind, run_underlying' hw, Result.andThen_ok, if_true, Sem.run_pure]; cases ok <;> rfl)
        · rename_i ht
          have hne : t ≠ want := fun he => by rw [he, Nat.beq_refl] at ht; cases ht
          split at h
          · replace h := ob_some h
            obtain ⟨z, hz, h⟩ := h
            cases h
            obtain ⟨z1, z2⟩ := zeroB_run hz w
            refine ⟨.tuple ⟨[z, .bool false]⟩, VR.ofTuple (LR.cons (VR.self 20 z z2) (LR.cons (.bool _) LR.nil)), exec_value (s := Instr.typeAssert (ρ' x) xt want true) rfl ?_⟩
            rw [hy]
            cases d <;> first
              | (exfalso; first | exact hni _ _ _ rfl hx | exact hni _ rfl)
              | simp [Instr.typeAssert, run_underlying' hw, hne, z1]
          · cases h
    · cases h
  case extract x i =>
    split at h
    · rename_i vs hx
      have h1 := hρ _ _ hx
      generalize hy : ρ' x = y at h1
      cases h1 with
      | tuple hl hh =>
        rename_i a b
        obtain ⟨u, hu, hv⟩ := list_at (b := ⟨b⟩) ⟨hl, hh⟩ h
        refine ⟨u, hv, exec_value (s := Instr.extract (ρ' x) i) rfl ?_⟩
        rw [hy]
        unfold Instr.extract
        simp only [hu]
        rfl
    · cases h
  case call c =>
    obtain ⟨callee, args, ats⟩ := c
    cases callee <;> simp only at h <;> first | (cases h; done) | skip
    rename_i b
    cases b <;> simp only at h <;> first | (cases h; done) | skip
    case len =>
      replace h := ob_some h
      obtain ⟨r, hr0, h⟩ := h
      replace h := ob_some h
      obtain ⟨x, hx, h⟩ := h
      replace h := ob_some h
      obtain ⟨t, ht, h⟩ := h
      obtain ⟨y, hy, hv⟩ := list_at (args_run hρ hr0) hx
      rw [nth_eq] at ht
      obtain ⟨v', h1, h2⟩ := lenV_run (P := P) (ts := ats) (ty := ty) (args := args.map ρ') hr (by simpa using ht) hy hv h
      refine ⟨v', h1, ?_⟩
      simp [execOp, resolve, invoke, builtin, h2]
    case max =>
      replace h := ob_some h
      obtain ⟨r, hr0, h⟩ := h
      split at h
      · rename_i hp
        obtain ⟨h1, h2⟩ := pureV_run (φ := φ) h
        have := LR.same hp (args_run hρ hr0)
        subst this
        refine ⟨v, h1, ?_⟩
        have h3 := h2 w
        simp only [Array.toList_map] at h3
        have e : (⟨List.map ρ' args.toList⟩ : Array Value) = args.map ρ' := by apply Array.ext'; simp
        rw [e] at h3
        simp [execOp, resolve, invoke, builtin, h3]
      · cases h
    case min =>
      replace h := ob_some h
      obtain ⟨r, hr0, h⟩ := h
      split at h
      · rename_i hp
        obtain ⟨h1, h2⟩ := pureV_run (φ := φ) h
        have := LR.same hp (args_run hρ hr0)
        subst this
        refine ⟨v, h1, ?_⟩
        have h3 := h2 w
        simp only [Array.toList_map] at h3
        have e : (⟨List.map ρ' args.toList⟩ : Array Value) = args.map ρ' := by apply Array.ext'; simp
        rw [e] at h3
        simp [execOp, resolve, invoke, builtin, h3]
      · cases h
end Go.Proofs.YtjkifbkehochoaaGreatDoor.Ev
