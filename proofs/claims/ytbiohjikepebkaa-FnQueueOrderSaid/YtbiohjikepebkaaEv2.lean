/-
  The same for calls, for operations in any order that Go leaves open, and for whole functions; under the conditions of body_sound.
-/
import Derived.Test.YtbiohjikepebkaaEv1
import Derived.Laws.BytesString
set_option linter.unusedVariables false
set_option linter.unusedSimpArgs false
/-
  ROWS OF ROWS OF THE CALL'S OWN: taken out, put in, made, made longer.
-/
namespace Go.Ev

section
variable {P : Program} {c : Cx}

theorem RowIn.same {c c' : Cx} {id i : Nat} {t : Ty} {xs : List t.D} {x : Value} (hN : ∀ b, c.N b → c'.N b ∧ c'.w.heap[b]? = c.w.heap[b]?) (hd : ∀ b, c.N.d id i b → c'.w.heap[b]? = c.w.heap[b]? ∧ c'.N.d id i b) (h : RowIn c id i t xs x) : RowIn c' id i t xs x := by
  obtain ⟨base, cap, h1, h2, h3⟩ := h
  refine ⟨base, cap, h1, h2, fun hc => ?_⟩
  obtain ⟨b, cs, ty, k1, k2, k3, k4, k5, k6⟩ := h3 hc
  obtain ⟨m1, m2⟩ := hd b k2
  exact ⟨b, cs, ty, k1, m2, m1.trans k3, k4, fun j hj => (k5 j hj).mono hN, k6.mono hN⟩

/-- the state with one row taken out -/
def Cx.take (c : Cx) (id i : Nat) (a : Ty) (xss : List (List a.D)) (xs : List a.D) (ob : Option Nat) : Cx :=
  ⟨c.w, ⟨c.N.n, fun k q z => c.N.d k q z ∧ ¬ (k = id ∧ q = i)⟩, c.r ++ [ob], c.s.set id (.deep a xss (some (i, some c.s.length))) ++ [.data a xs]⟩

theorem take_ctx (hi : Inv c) {id i : Nat} {a : Ty} {xss : List (List a.D)} {xs : List a.D} (hs : c.s[id]? = some (.deep a xss none)) {ob : Option Nat} (hob : ∀ b, ob = some b → c.N.d id i b)
    (hB1 : RepB (c.take id i a xss xs ob) id (.deep a xss (some (i, some c.s.length)))) (hB2 : RepB (c.take id i a xss xs ob) c.s.length (.data a xs)) : Inv (c.take id i a xss xs ob) ∧ Ext c (c.take id i a xss xs ob) := by
  have hid := (List.getElem?_eq_some_iff.1 hs).1
  have hr : ∀ (k : Nat), k < c.s.length → (c.r ++ [ob])[k]? = c.r[k]? := fun k h => List.getElem?_append_left (by rw [hi.len]; exact h)
  have hown : ∀ (k b : Nat), (c.r ++ [ob])[k]? = some (some b) → c.r[k]? = some (some b) ∨ (k = c.s.length ∧ ob = some b) := fun k b h => by
    rw [List.getElem?_append] at h
    split at h
    · exact .inl h
    · have h3 := (List.getElem?_eq_some_iff.1 h).1
      simp only [List.length_singleton] at h3
      have h0 : k - c.r.length = 0 := by omega
      rw [h0] at h
      simp only [List.getElem?_cons_zero, Option.some.injEq] at h
      exact .inr ⟨by rw [← hi.len]; omega, h⟩
  have hE : Ext c (c.take id i a xss xs ob) := {
    os := rfl
    tape := rfl
    output := rfl
    fz := fun _ _ => rfl
    size := Nat.le_refl _
    out := fun _ _ _ => rfl
    shape := fun b cs ty h => ⟨cs, h, rfl⟩
    nm := fun _ h => h
    nn := fun _ h => .inl h
    own := fun b hb => by
      rcases hb with ⟨k, hb⟩ | ⟨k, q, hb, _⟩
      · rcases hown k b hb with h | ⟨_, h⟩
        · exact .inl (.inl ⟨k, h⟩)
        · exact .inl (.inr ⟨id, i, hob b h⟩)
      · exact .inl (.inr ⟨k, q, hb⟩)
    ids := fun k bk hk => by
      have hlt := (List.getElem?_eq_some_iff.1 hk).1
      by_cases e : k = id
      · subst e
        rw [hs] at hk
        obtain rfl := Option.some.inj hk
        refine ⟨.deep a xss (some (i, some c.s.length)), ?_, fun _ => ⟨trivial, rfl, rfl, hr k hlt⟩⟩
        show (c.s.set k _ ++ _)[k]? = _
        rw [List.getElem?_append_left (by simpa using hlt), List.getElem?_set_self hlt]
      · refine ⟨bk, ?_, fun hl => ⟨hl, rfl, rfl, hr k hlt⟩⟩
        show (c.s.set id _ ++ _)[k]? = _
        rw [List.getElem?_append_left (by simpa using hlt), List.getElem?_set_ne (Ne.symm e)]
        exact hk }
  refine ⟨⟨by simp [Cx.take, hi.len], fun k l b h1 h2 => ?_, fun k id' q b h1 h2 => ?_, fun k q k' q' b h1 h2 => hi.din k q k' q' b h1.1 h2.1, fun b hb => ?_, hi.old, fun k bk hk => ?_⟩, hE⟩
  · rcases hown k b h1 with m1 | ⟨m1, e1⟩ <;> rcases hown l b h2 with m2 | ⟨m2, e2⟩
    · exact hi.inj k l b m1 m2
    · exact (hi.dis k id i b m1 (hob b e2)).elim
    · exact (hi.dis l id i b m2 (hob b e1)).elim
    · omega
  · rcases hown k b h1 with m1 | ⟨m1, e1⟩
    · exact hi.dis k id' q b m1 h2.1
    · obtain ⟨e3, e4⟩ := hi.din id' q id i b h2.1 (hob b e1)
      exact h2.2 ⟨e3, e4⟩
  · rcases hE.own b hb with h | h
    · exact hi.own b h
    · rcases hb with ⟨k, hb⟩ | ⟨k, q, hb, _⟩
      · rcases hown k b hb with h | ⟨_, h⟩
        · exact hi.own b (.inl ⟨k, h⟩)
        · exact hi.own b (.inr ⟨id, i, hob b h⟩)
      · exact hi.own b (.inr ⟨k, q, hb⟩)
  · have hk' : (c.s.set id (.deep a xss (some (i, some c.s.length))) ++ [.data a xs])[k]? = some bk := hk
    rw [List.getElem?_append] at hk'
    split at hk'
    · rename_i hlt
      simp only [List.length_set] at hlt
      by_cases e : k = id
      · subst e
        rw [List.getElem?_set_self hlt] at hk'
        obtain rfl := Option.some.inj hk'
        exact hB1
      · rw [List.getElem?_set_ne (Ne.symm e)] at hk'
        exact (hi.blk k bk hk').ext hi hE (hr k hlt) (fun _ _ => rfl) fun q b h => ⟨rfl, h, fun ⟨e', _⟩ => e e'⟩
    · rename_i hge
      have h3 := (List.getElem?_eq_some_iff.1 hk').1
      simp only [List.length_singleton, List.length_set] at h3 hge
      have h0 : k = c.s.length := by omega
      subst h0
      simp at hk'
      subst hk'
      exact hB2

theorem takeV_left (hi : Inv c) {τ : Ty} {t : TypeId} (hτ : TyOk P τ t) {p v : AV} {x : Value} {s' : Store} (hr : Rep3 c p x) (h : takeV c.s τ p = some (v, s')) :
    ∃ y c', (Instr.loadAt t x).run P c.w = .ok y c.w ∧ c'.w = c.w ∧ c'.s = s' ∧ Inv c' ∧ Ext c c' ∧ Rep3 c' v y := by
  unfold takeV at h
  split at h
  · rename_i id i f
    split at h
    · rename_i a xss hs
      split at h
      · rename_i hc
        obtain ⟨rfl, rfl⟩ := hc
        obtain ⟨xs, hxs, h2⟩ := Option.map_eq_some_iff.mp h
        obtain ⟨rfl, rfl⟩ := Prod.mk.inj h2
        obtain ⟨_, bk, hbk, hp⟩ := hr
        rw [hs] at hbk
        obtain rfl := Option.some.inj hbk
        obtain ⟨b, cs, hat, rfl, hlt⟩ := hp trivial
        simp only [Blk.len, Blk.sz, Nat.mul_one, Nat.add_zero] at hlt ⊢
        rcases hi.blk id _ hs with hB | ⟨b', cs', hat', hsz, hcell⟩
        · subst hB; simp at hlt
        · obtain ⟨rfl, rfl⟩ := at_eq hat hat'
          obtain ⟨y, hy, hrow⟩ := hcell i hlt
          have hxe : xss[i] = xs := (List.getElem?_eq_some_iff.1 hxs).2
          rw [hxe] at hrow
          obtain ⟨hr1, ty, hheap⟩ := hat
          have h0 : c.w.cell? (⟨b, i, none⟩ : Addr) = some y := by simpa [World.cell?, hheap] using hy
          have hrun : (Instr.loadAt t (.pointer (some ⟨b, i, none⟩))).run P c.w = .ok y c.w := by
            simp [Instr.loadAt, Instr.sureAddr, loadVar, hτ.isAgg, Ty.isAgg, h0]
          have hid := (List.getElem?_eq_some_iff.1 hs).1
          obtain ⟨base, cap, hye, hlc, hcap⟩ := hrow
          -- what lies under the row
          have hbl : ∃ ob : Option Nat, (∀ b, ob = some b → c.N.d id i b) ∧ (cap ≠ 0 → ∃ b1 cs1 ty1, ob = some b1 ∧ base = some ⟨b1, 0, none⟩ ∧ c.w.heap[b1]? = some (.cells cs1 ty1 (0, 0)) ∧ cap * a.size ≤ cs1.size ∧
              (∀ j (h : j < xs.length), RepC c.w c.N a xs[j] (seg cs1 (j * a.size) a.size)) ∧ Sp c.w c.N a xs.length cs1) ∧ (cap = 0 → ob = none) := by
            by_cases hc0 : cap = 0
            · exact ⟨none, fun b e => (by cases e), fun h => absurd hc0 h, fun _ => rfl⟩
            · obtain ⟨b1, cs1, ty1, k1, k2, k3, k4, k5, k6⟩ := hcap hc0
              exact ⟨some b1, fun b e => by obtain rfl := Option.some.inj e; exact k2, fun _ => ⟨b1, cs1, ty1, rfl, k1, k3, k4, k5, k6⟩, fun h => absurd h hc0⟩
          obtain ⟨ob, ho1, ho2, ho3⟩ := hbl
          have hrl : (c.r ++ [ob])[c.s.length]? = some ob := by rw [← hi.len]; simp
          have hsl : (c.take id i a xss xs ob).s[c.s.length]? = some (.data a xs) := by
            show (c.s.set id _ ++ [_])[c.s.length]? = _
            rw [List.getElem?_append_right (by simp)]; simp
          have hone : y.oneCell' = true := by rw [hye]; simp [Value.oneCell']
          have hall : Rep1 (c.take id i a xss xs ob) (.all c.s.length) y := by
            refine ⟨hone, .data a xs, hsl, fun _ => ⟨base, cap, hye, hlc, fun hc0 => ?_⟩⟩
            obtain ⟨b1, cs1, ty1, e1, k1, k2, k3, _⟩ := ho2 hc0
            exact ⟨b1, cs1, ⟨by show (c.r ++ [ob])[_]? = _; rw [hrl, e1], ty1, k2⟩, k1, k3⟩
          have hB2 : RepB (c.take id i a xss xs ob) c.s.length (.data a xs) := by
            refine ⟨?_, fun b2 cs2 hat2 => ?_⟩
            · by_cases hc0 : cap = 0
              · exact .inl (List.eq_nil_of_length_eq_zero (by omega))
              · obtain ⟨b1, cs1, ty1, e1, k1, k2, k3, k4, k5⟩ := ho2 hc0
                refine .inr ⟨b1, cs1, ⟨by show (c.r ++ [ob])[_]? = _; rw [hrl, e1], ty1, k2⟩, Nat.le_trans (Nat.mul_le_mul_right _ hlc) k3, k4⟩
            · obtain ⟨m1, ty2, m2⟩ := hat2
              have m1' : (c.r ++ [ob])[c.s.length]? = some (some b2) := m1
              rw [hrl] at m1'
              have e2 := Option.some.inj m1'
              by_cases hc0 : cap = 0
              · rw [ho3 hc0] at e2; cases e2
              · obtain ⟨b1, cs1, ty1, e1, k1, k2, k3, k4, k5⟩ := ho2 hc0
                rw [e1] at e2
                obtain rfl := Option.some.inj e2
                have m2' : c.w.heap[b1]? = some (.cells cs2 ty2 (0, 0)) := m2
                rw [k2] at m2'
                simp only [Option.some.injEq, Obj.cells.injEq] at m2'
                obtain ⟨rfl, _⟩ := m2'
                exact k5
          have hB1 : RepB (c.take id i a xss xs ob) id (.deep a xss (some (i, some c.s.length))) := by
            refine .inr ⟨b, cs, ⟨by show (c.r ++ [ob])[_]? = _; rw [List.getElem?_append_left (by rw [hi.len]; exact hid)]; exact hr1, ty, hheap⟩, hsz, fun q hq => ?_⟩
            obtain ⟨z, hz, hrowq⟩ := hcell q hq
            refine ⟨z, hz, ?_⟩
            unfold DeepCell
            simp only
            split
            · rename_i e
              subst e
              rw [hy] at hz
              obtain rfl := Option.some.inj hz
              exact hall
            · rename_i e
              exact RowIn.same (c := c) (fun _ h => ⟨h, rfl⟩) (fun b1 h => ⟨rfl, h, fun ⟨_, e'⟩ => e e'⟩) hrowq
          obtain ⟨g1, g2⟩ := take_ctx hi hs ho1 hB1 hB2
          exact ⟨y, c.take id i a xss xs ob, hrun, rfl, rfl, g1, g2, hall⟩
      · cases h
    · cases h
  · cases h

/-- the state with a row put in -/
def Cx.put (c : Cx) (w' : World) (id i j : Nat) (a : Ty) (xss : List (List a.D)) : Cx :=
  ⟨w', ⟨c.N.n, fun k q z => (c.N.d k q z ∧ ¬ (k = id ∧ q = i)) ∨ (k = id ∧ q = i ∧ c.r[j]? = some (some z))⟩, c.r.set j none, (c.s.set j .dead).set id (.deep a xss none)⟩

theorem put_ctx (hi : Inv c) {w' : World} {id i j b : Nat} {cs cs' : Array Value} {ty : TypeId} {a : Ty} {xss xss' : List (List a.D)} {link : Option (Nat × Option Nat)} {bj : Blk} (hs : c.s[id]? = some (.deep a xss link)) (hj : c.s[j]? = some bj) (hne : j ≠ id) (hl : xss'.length = xss.length)
    (hr : c.r[id]? = some (some b)) (hb : c.w.heap[b]? = some (.cells cs ty (0, 0))) (hw : Wrote c.w w' b cs' ty) (hsz : cs'.size = cs.size) (hB : RepB (c.put w' id i j a xss') id (.deep a xss' none)) :
    Inv (c.put w' id i j a xss') ∧ Ext c (c.put w' id i j a xss') := by
  have hid := (List.getElem?_eq_some_iff.1 hs).1
  have hjl := (List.getElem?_eq_some_iff.1 hj).1
  have hs' := hw.size
  have hrr : ∀ (k : Nat), k ≠ j → (c.r.set j none)[k]? = c.r[k]? := fun k h => by simp [List.getElem?_set, Ne.symm h]
  have hown : ∀ (k z : Nat), (c.r.set j none)[k]? = some (some z) → k ≠ j ∧ c.r[k]? = some (some z) := fun k z h => by
    by_cases e : k = j
    · subst e; simp [List.getElem?_set] at h
    · exact ⟨e, by rw [← hrr k e]; exact h⟩
  have hE : Ext c (c.put w' id i j a xss') := {
    os := hw.os
    tape := hw.tape
    output := hw.output
    fz := fun p _ => by
      show w'.frozen? p = c.w.frozen? p
      unfold World.frozen?
      by_cases e : p.block = b
      · rw [e, hw.here, hb]
      · rw [hw.other _ e]
    size := by show _ ≤ w'.heap.size; omega
    out := fun k _ hn => hw.other k fun e => hn (.inl ⟨id, by rw [e]; exact hr⟩)
    shape := fun k cs0 ty0 h => by
      by_cases e : k = b
      · subst e
        rw [hb] at h
        simp at h
        exact ⟨cs', by show w'.heap[k]? = _; rw [← h.2]; exact hw.here, by rw [hsz, h.1]⟩
      · exact ⟨cs0, by show w'.heap[k]? = _; rw [hw.other k e]; exact h, rfl⟩
    nm := fun _ h => h
    nn := fun _ h => .inl h
    own := fun z hz => by
      rcases hz with ⟨k, hz⟩ | ⟨k, q, ⟨hz, _⟩ | ⟨_, _, hz⟩⟩
      · exact .inl (.inl ⟨k, (hown k z hz).2⟩)
      · exact .inl (.inr ⟨k, q, hz⟩)
      · exact .inl (.inl ⟨j, hz⟩)
    ids := fun k bk hk => by
      have hlt := (List.getElem?_eq_some_iff.1 hk).1
      by_cases e : k = id
      · subst e
        rw [hs] at hk
        obtain rfl := Option.some.inj hk
        refine ⟨.deep a xss' none, by show ((c.s.set j .dead).set k _)[k]? = _; rw [List.getElem?_set_self (by simpa using hlt)], fun _ => ⟨trivial, hl, rfl, hrr k (Ne.symm hne)⟩⟩
      · by_cases e2 : k = j
        · subst e2
          refine ⟨.dead, ?_, fun h => h.elim⟩
          show ((c.s.set k .dead).set id _)[k]? = _
          rw [List.getElem?_set_ne (Ne.symm e), List.getElem?_set_self hlt]
        · refine ⟨bk, ?_, fun h => ⟨h, rfl, rfl, hrr k e2⟩⟩
          show ((c.s.set j .dead).set id _)[k]? = _
          rw [List.getElem?_set_ne (Ne.symm e), List.getElem?_set_ne (Ne.symm e2)]
          exact hk }
  refine ⟨⟨by simp [Cx.put, hi.len], fun k l z h1 h2 => hi.inj k l z (hown k z h1).2 (hown l z h2).2, fun k id' q z h1 h2 => ?_, fun k q k' q' z h1 h2 => ?_, fun z hz => ?_, fun z hz => ?_, fun k bk hk => ?_⟩, hE⟩
  · obtain ⟨m1, m2⟩ := hown k z h1
    rcases h2 with ⟨h2, _⟩ | ⟨_, _, h2⟩
    · exact hi.dis k id' q z m2 h2
    · exact m1 (hi.inj k j z m2 h2)
  · rcases h1 with ⟨h1, n1⟩ | ⟨e1, e2, h1⟩ <;> rcases h2 with ⟨h2, n2⟩ | ⟨e3, e4, h2⟩
    · exact hi.din k q k' q' z h1 h2
    · exact (hi.dis j k q z h2 h1).elim
    · exact (hi.dis j k' q' z h1 h2).elim
    · exact ⟨by rw [e1, e3], by rw [e2, e4]⟩
  · rcases hE.own z hz with h | h
    · have := hi.own z h
      exact ⟨by show z < w'.heap.size; omega, this.2⟩
    · rcases hz with ⟨k, hz⟩ | ⟨k, q, ⟨hz, _⟩ | ⟨_, _, hz⟩⟩
      · have := (hi.own z (.inl ⟨k, (hown k z hz).2⟩)).1; omega
      · have := (hi.own z (.inr ⟨k, q, hz⟩)).1; omega
      · have := (hi.own z (.inl ⟨j, hz⟩)).1; omega
  · have := hi.old z hz
    show z < w'.heap.size
    omega
  · have hk' : ((c.s.set j .dead).set id (.deep a xss' none))[k]? = some bk := hk
    by_cases e : k = id
    · subst e
      rw [List.getElem?_set_self (by simpa using hid)] at hk'
      obtain rfl := Option.some.inj hk'
      exact hB
    · rw [List.getElem?_set_ne (Ne.symm e)] at hk'
      by_cases e2 : k = j
      · subst e2
        rw [List.getElem?_set_self hjl] at hk'
        obtain rfl := Option.some.inj hk'
        trivial
      · rw [List.getElem?_set_ne (Ne.symm e2)] at hk'
        refine (hi.blk k bk hk').ext hi hE (hrr k e2) (fun z hz => hw.other z fun e' => e (hi.inj k id z hz (by rw [e']; exact hr))) fun q z hz => ⟨hw.other z fun e' => hi.dis id k q z (by rw [e']; exact hr) hz, .inl ⟨hz, fun ⟨e', _⟩ => e e'⟩⟩

theorem storeD_rep (hi : Inv c) {τ : Ty} {t : TypeId} (hτ : TyOk P τ t) {p v : AV} {x y : Value} {s' : Store} (hp : Rep3 c p x) (hv : Rep3 c v y) (h : storeD c.s τ p v = some s') :
    ∃ c', (Instr.storeAt t x y).run P c.w = .ok () c'.w ∧ c'.s = s' ∧ Inv c' ∧ Ext c c' := by
  unfold storeD at h
  split at h
  · rename_i id i f j
    split at h
    · rename_i a xss link b0 ys hs hj
      split at h
      · rename_i hc
        obtain ⟨rfl, rfl⟩ := hc
        obtain ⟨zs, hcast, h2⟩ := Option.bind_eq_some_iff.mp h
        obtain ⟨eq, hzs⟩ := castD_some hcast
        obtain rfl : a = b0 := by simpa using eq.symm
        obtain rfl : ys = zs := hzs.symm
        split at h2
        case isFalse => cases h2
        rename_i hlt
        split at h2
        case isFalse => cases h2
        rename_i hlink
        obtain rfl := Option.some.inj h2
        have hne : j ≠ id := fun e => by rw [e, hs] at hj; cases hj
        obtain ⟨_, bk, hbk, hp⟩ := hp
        rw [hs] at hbk
        obtain rfl := Option.some.inj hbk
        obtain ⟨b, cs, hat, rfl, _⟩ := hp trivial
        simp only [Blk.sz, Nat.mul_one, Nat.add_zero]
        obtain ⟨hone, bk, hbk, hv⟩ := hv
        rw [hj] at hbk
        obtain rfl := Option.some.inj hbk
        obtain ⟨base, cap, hye, hlc, hcap⟩ := hv trivial
        simp only [Blk.len, Blk.sz] at hlc hcap hye
        rcases hi.blk id _ hs with hB | ⟨b', cs', hat', hsz, hcell⟩
        · subst hB; simp at hlt
        · obtain ⟨rfl, rfl⟩ := at_eq hat hat'
          obtain ⟨hr1, ty, hheap⟩ := hat
          have hyc : y.cells = #[y] := by rw [hye]; rfl
          have hrun := run_storeAt (P := P) hτ (o := i) (y := y) hheap (by rw [hyc]; rfl) (fun z hz => by rw [hyc] at hz; simp at hz; rw [hz]; exact hone) (by simp only [Ty.size]; omega)
          have hw : Wrote c.w (c.w.setRow b (overA cs i y.cells.toList)) b (overA cs i y.cells.toList) ty := Wrote.setRow hheap
          have hilt : i < cs.size := by omega
          have hsize := overA_size (cs := cs) (o := i) (vs := y.cells.toList) (by rw [hyc]; simpa using (show i + 1 ≤ cs.size from hilt))
          have hBj := hi.blk j _ hj
          have hget : ∀ q, (overA cs i y.cells.toList)[q]? = if q = i then some y else cs[q]? := fun q => by
            rw [hyc]
            have e : (overA cs i #[y].toList)[q]? = (overA cs i [y]).toList[q]? := by simp
            rw [e]
            unfold overA
            simp only [List.getElem?_append, List.length_append, List.length_take, Array.length_toList, List.length_singleton, List.getElem?_take, List.getElem?_drop]
            have hil : i < cs.size := by omega
            have e1 : min i cs.size = i := by omega
            simp only [e1]
            by_cases q1 : q < i
            · have : q ≠ i := by omega
              simp [q1, this, show q < i + 1 by omega]
            · by_cases q2 : q = i
              · subst q2; simp
              · have q3 : ¬ q < i + 1 := by omega
                simp [q1, q2, q3]
                congr 1; omega
          have hB : RepB (c.put (c.w.setRow b (overA cs i y.cells.toList)) id i j a (xss.set i ys)) id (.deep a (xss.set i ys) none) := by
            refine .inr ⟨b, _, ⟨by show (c.r.set j none)[id]? = _; simp [List.getElem?_set, hne]; exact hr1, ty, hw.here⟩, by rw [hsize]; simpa using hsz, fun q hq => ?_⟩
            simp only [List.length_set] at hq
            rw [hget q, List.getElem_set]
            have hN : ∀ z, c.N z → (c.put (c.w.setRow b (overA cs i y.cells.toList)) id i j a (xss.set i ys)).N z ∧ (c.put (c.w.setRow b (overA cs i y.cells.toList)) id i j a (xss.set i ys)).w.heap[z]? = c.w.heap[z]? := fun z hz =>
              ⟨hz, hw.other z fun e => (hi.own b (.inl ⟨id, hr1⟩)).2 (e ▸ hz)⟩
            by_cases e : q = i
            · subst e
              rw [if_pos rfl, if_pos rfl]
              refine ⟨y, rfl, base, cap, hye, hlc, fun hc0 => ?_⟩
              obtain ⟨b1, cs1, ⟨m1, ty1, m2⟩, k1, k2⟩ := hcap hc0
              have hneb : b1 ≠ b := fun e => by subst e; exact hne (hi.inj j id b1 m1 hr1)
              refine ⟨b1, cs1, ty1, k1, .inr ⟨rfl, rfl, m1⟩, (hw.other b1 hneb).trans m2, k2, fun l hl => ?_, ?_⟩
              · rcases hBj.1 with rfl | ⟨b2, cs2, m3, m4, m5⟩
                · simp at hl
                · obtain ⟨rfl, rfl⟩ := at_eq ⟨m1, ty1, m2⟩ m3
                  exact (m5 l hl).mono hN
              · exact (hBj.2 b1 cs1 ⟨m1, ty1, m2⟩).mono hN
            · rw [if_neg e, if_neg (Ne.symm e)]
              obtain ⟨z, hz, hrow⟩ := hcell q hq
              refine ⟨z, hz, ?_⟩
              have hrow' : RowIn c id q a xss[q] z := by
                unfold DeepCell at hrow
                cases link with
                | none => exact hrow
                | some l =>
                  obtain ⟨l1, l2⟩ := l
                  simp only [linkOk] at hlink
                  simp only at hrow
                  rw [if_neg (by omega)] at hrow
                  exact hrow
              exact RowIn.same hN (fun b1 h => ⟨hw.other b1 fun e' => hi.dis id id q b1 (by rw [e']; exact hr1) h, .inl ⟨h, fun ⟨_, e'⟩ => e e'⟩⟩) hrow'
          obtain ⟨g1, g2⟩ := put_ctx hi (w' := c.w.setRow b (overA cs i y.cells.toList)) (i := i) hs hj hne (by simp) hr1 hheap hw hsize hB
          exact ⟨_, hrun, rfl, g1, g2⟩
      · cases h
    · cases h
  · cases h

/-- a block's row, seen as a row at its place -/
theorem put_row (hi : Inv c) {w' : World} {id i j b : Nat} {a : Ty} {ys : List a.D} {xss : List (List a.D)} {y : Value} (hj : c.s[j]? = some (.data a ys)) (hne : j ≠ id) (hr : c.r[id]? = some (some b)) (ho : ∀ k, k ≠ b → w'.heap[k]? = c.w.heap[k]?)
    (hv : Rep1 c (.all j) y) : RowIn (c.put w' id i j a xss) id i a ys y := by
  obtain ⟨_, bk, hbk, hv⟩ := hv
  rw [hj] at hbk
  obtain rfl := Option.some.inj hbk
  obtain ⟨base, cap, hye, hlc, hcap⟩ := hv trivial
  simp only [Blk.len, Blk.sz] at hlc hcap hye
  have hBj := hi.blk j _ hj
  have hN : ∀ z, c.N z → (c.put w' id i j a xss).N z ∧ (c.put w' id i j a xss).w.heap[z]? = c.w.heap[z]? := fun z hz =>
    ⟨hz, ho z fun e => (hi.own b (.inl ⟨id, hr⟩)).2 (e ▸ hz)⟩
  refine ⟨base, cap, hye, hlc, fun hc0 => ?_⟩
  obtain ⟨b1, cs1, ⟨m1, ty1, m2⟩, k1, k2⟩ := hcap hc0
  have hneb : b1 ≠ b := fun e => by subst e; exact hne (hi.inj j id b1 m1 hr)
  refine ⟨b1, cs1, ty1, k1, .inr ⟨rfl, rfl, m1⟩, (ho b1 hneb).trans m2, k2, fun l hl => ?_, ?_⟩
  · rcases hBj.1 with rfl | ⟨b2, cs2, m3, m4, m5⟩
    · simp at hl
    · obtain ⟨rfl, rfl⟩ := at_eq ⟨m1, ty1, m2⟩ m3
      exact (m5 l hl).mono hN
  · exact (hBj.2 b1 cs1 ⟨m1, ty1, m2⟩).mono hN

theorem Wrote.same {w : World} {b : Nat} {cs : Array Value} {ty : TypeId} (h : w.heap[b]? = some (.cells cs ty (0, 0))) : Wrote w w b cs ty := ⟨rfl, h, fun _ _ => rfl, rfl, rfl, rfl⟩

/-- what stands in a block by itself stands at its place again -/
theorem settle1_ok (hi : Inv c) (id : Nat) : ∃ c', c'.w = c.w ∧ c'.s = settle1 c.s id ∧ Inv c' ∧ Ext c c' := by
  have same : ∃ c', c'.w = c.w ∧ c'.s = c.s ∧ Inv c' ∧ Ext c c' := ⟨c, rfl, rfl, hi, Ext.refl c⟩
  unfold settle1
  split
  · rename_i a xss p j hs
    split
    · rename_i b0 ys hj
      split
      · rename_i zs hcast
        obtain ⟨eq, hzs⟩ := castD_some hcast
        obtain rfl : a = b0 := by simpa using eq.symm
        obtain rfl : ys = zs := hzs.symm
        have hne : j ≠ id := fun e => by rw [e, hs] at hj; cases hj
        by_cases hlt : p < xss.length
        · rcases hi.blk id _ hs with hB | ⟨b, cs, ⟨hr1, ty, hheap⟩, hsz, hcell⟩
          · subst hB; simp at hlt
          · have hB : RepB (c.put c.w id p j a (xss.set p ys)) id (.deep a (xss.set p ys) none) := by
              refine .inr ⟨b, cs, ⟨by show (c.r.set j none)[id]? = _; simp [List.getElem?_set, hne]; exact hr1, ty, hheap⟩, by simpa using hsz, fun q hq => ?_⟩
              simp only [List.length_set] at hq
              obtain ⟨z, hz, hrow⟩ := hcell q hq
              refine ⟨z, hz, ?_⟩
              unfold DeepCell at hrow ⊢
              simp only at hrow ⊢
              rw [List.getElem_set]
              by_cases e : q = p
              · subst e
                rw [if_pos rfl] at hrow
                rw [if_pos rfl]
                exact put_row hi hj hne hr1 (fun _ _ => rfl) hrow
              · rw [if_neg e] at hrow
                rw [if_neg (Ne.symm e)]
                exact RowIn.same (c := c) (fun _ h => ⟨h, rfl⟩) (fun b1 h => ⟨rfl, .inl ⟨h, fun ⟨_, e'⟩ => e e'⟩⟩) hrow
            obtain ⟨g1, g2⟩ := put_ctx hi (w' := c.w) (i := p) hs hj hne (by simp) hr1 hheap (Wrote.same hheap) rfl hB
            exact ⟨c.put c.w id p j a (xss.set p ys), rfl, rfl, g1, g2⟩
        · -- no such place: the block is given up
          have hid := (List.getElem?_eq_some_iff.1 hs).1
          have hjl := (List.getElem?_eq_some_iff.1 hj).1
          obtain ⟨ri, rE⟩ := retire hi hjl
          have hset : xss.set p ys = xss := List.set_eq_of_length_le (by omega)
          have hB : RepB ⟨c.w, c.N, c.r.set j none, (c.s.set j .dead).set id (.deep a xss none)⟩ id (.deep a xss none) := by
            rcases hi.blk id _ hs with hB | ⟨b, cs, ⟨hr1, ty, hheap⟩, hsz, hcell⟩
            · exact .inl hB
            · refine .inr ⟨b, cs, ⟨by show (c.r.set j none)[id]? = _; simp [List.getElem?_set, hne]; exact hr1, ty, hheap⟩, hsz, fun q hq => ?_⟩
              obtain ⟨z, hz, hrow⟩ := hcell q hq
              refine ⟨z, hz, ?_⟩
              unfold DeepCell at hrow ⊢
              simp only at hrow ⊢
              rw [if_neg (by omega)] at hrow
              exact RowIn.same (c := c) (fun _ h => ⟨h, rfl⟩) (fun b1 h => ⟨rfl, h⟩) hrow
          have hs1 : (c.s.set j .dead)[id]? = some (.deep a xss (some (p, some j))) := by rw [List.getElem?_set_ne hne]; exact hs
          have hE : Ext ⟨c.w, c.N, c.r.set j none, c.s.set j .dead⟩ ⟨c.w, c.N, c.r.set j none, (c.s.set j .dead).set id (.deep a xss none)⟩ :=
            ⟨rfl, rfl, rfl, fun _ _ => rfl, Nat.le_refl _, fun _ _ _ => rfl, fun _ cs _ h => ⟨cs, h, rfl⟩, fun _ h => h, fun _ h => .inl h, fun b h => .inl h, fun k bk hk => by
              by_cases e : id = k
              · subst e
                have hk' : (c.s.set j .dead)[id]? = some bk := hk
                rw [hs1] at hk'
                obtain rfl := Option.some.inj hk'
                exact ⟨.deep a xss none, by show ((c.s.set j .dead).set id _)[id]? = _; rw [List.getElem?_set_self (by simpa using hid)], fun _ => ⟨trivial, rfl, rfl, rfl⟩⟩
              · exact ⟨bk, by show ((c.s.set j .dead).set id _)[k]? = _; rw [List.getElem?_set_ne e]; exact hk, fun hl => ⟨hl, rfl, rfl, rfl⟩⟩⟩
          refine ⟨⟨c.w, c.N, c.r.set j none, (c.s.set j .dead).set id (.deep a xss none)⟩, rfl, by rw [hset], ⟨by simp [hi.len], ri.inj, ri.dis, ri.din, ri.own, ri.old, fun k bk hk => ?_⟩, rE.trans hE⟩
          have hk' : ((c.s.set j .dead).set id (.deep a xss none))[k]? = some bk := hk
          by_cases e : id = k
          · subst e
            rw [List.getElem?_set_self (by simpa using hid)] at hk'
            obtain rfl := Option.some.inj hk'
            exact hB
          · rw [List.getElem?_set_ne e] at hk'
            exact RepB.ext ri hE rfl (fun _ _ => rfl) (fun _ _ h => ⟨rfl, h⟩) (ri.blk k bk hk')
      · exact same
    · exact same
  · exact same

theorem settle_ok : ∀ (l : List Nat) {c : Cx}, Inv c → ∃ c', c'.w = c.w ∧ c'.s = l.foldl settle1 c.s ∧ Inv c' ∧ Ext c c'
  | [], c, hi => ⟨c, rfl, rfl, hi, Ext.refl c⟩
  | i :: l, c, hi => by
    obtain ⟨c1, w1, s1, i1, e1⟩ := settle1_ok hi i
    obtain ⟨c2, w2, s2, i2, e2⟩ := settle_ok l i1
    exact ⟨c2, w2.trans w1, by rw [s2, s1]; rfl, i2, e1.trans e2⟩

/-! ### made -/

theorem makeD_left (hi : Inv c) {a : Ty} {t : TypeId} (hτ : TyOk P (.sl (.sl a)) t) {n : Nat} {k k' : IntKind} (hn : n ≤ bigRow) :
    Left P c ((Instr.makeSlice t (.int k (n : Int)) (.int k' (n : Int))).run P c.w) (makeD c.s a n).1 (makeD c.s a n).2 := by
  obtain ⟨el, hu, he, ha⟩ := hτ.sl
  obtain ⟨i, z, h1, h2, h3, h4, h5, h6, h7⟩ := he.zero
  have hb : i.bytes * n ≤ 281474976710656 := by
    have := Nat.mul_le_mul h3 hn
    simp only [bigRow] at this
    omega
  have hb' : (i.bytes : Int) * (n : Int) ≤ 281474976710656 := by
    have h : ((i.bytes * n : Nat) : Int) ≤ 281474976710656 := by omega
    rwa [Int.natCast_mul] at h
  simp only [bigRow] at hn
  have hr := run_make (P := P) c.w t el i z hu h1 h4 k k' n n (by omega) (Int.le_refl _) hb' (by omega)
  simp only [Int.toNat_natCast] at hr
  rw [hr]
  have hz := zeroIs_cells (c := c) h5
  have hz1 : ∃ x0 base, z.cells.toList = [x0] ∧ x0 = .slice base 0 0 := by
    simp only [zeroCells] at hz
    match hzz : z.cells.toList, hz with
    | [x0], hz => obtain ⟨base, hx⟩ := hz.1; exact ⟨x0, base, rfl, hx⟩
    | [], hz => exact hz.elim
    | _ :: _ :: _, hz => exact hz.2.elim
  obtain ⟨x0, base0, hx0, hx1⟩ := hz1
  have hzc : z.cells = #[x0] := by apply Array.ext'; rw [hx0]
  have hsz : i.size = 1 := h2
  have hcs : ∀ q, q < n → (madeCells z.cells (n * i.size))[q]? = some x0 := fun q hq => by
    rw [hsz, Nat.mul_one]
    simp only [madeCells, Array.getElem?_map, Array.getElem?_range, hq, if_true, Option.map_some, hzc]
    simp [Nat.mod_one]
  have hsize : (madeCells z.cells (n * i.size)).size = n := by rw [size_madeCells, hsz, Nat.mul_one]
  have hg := Grew.alloc c.w (madeCells z.cells (n * i.size)) el
  have hrl : (c.r ++ [some c.w.heap.size])[c.s.length]? = some (some c.w.heap.size) := by rw [← hi.len]; simp
  have hat : ∀ bk : Blk, (⟨c.w.alloc (.cells (madeCells z.cells (n * i.size)) el), c.N, c.r ++ [some c.w.heap.size], c.s ++ [bk]⟩ : Cx).at c.s.length c.w.heap.size (madeCells z.cells (n * i.size)) := fun bk => ⟨hrl, el, hg.new⟩
  obtain ⟨g1, g2⟩ := allocO hi hg (.deep a (List.replicate n []) none) (by
    refine .inr ⟨_, _, hat _, by rw [hsize]; simp, fun q hq => ?_⟩
    simp only [List.length_replicate] at hq
    refine ⟨x0, hcs q hq, ?_⟩
    rw [List.getElem_replicate]
    exact ⟨base0, 0, hx1, Nat.le_refl _, fun h => absurd rfl h⟩)
  refine ⟨_, _, rfl, rfl, g1, g2, rfl, .deep a (List.replicate n []) none, by simp [makeD], fun _ => ⟨_, n, by simp [Blk.len], by simp [Blk.len], fun _ => ⟨_, _, hat _, rfl, by simp only [Blk.sz]; rw [hsize]; omega⟩⟩⟩

theorem run_build1 {a : Ty} {t : TypeId} (hτ : TyOk P (.sl (.sl a)) t) {y : Value} (hy : y.cells = #[y]) (w : World) :
    ∃ el, (Instr.buildSlice t 1 #[(0, y)]).run P w = .ok (.slice (some ⟨w.heap.size, 0, none⟩) 1 1) (w.alloc (.cells #[y] el)) := by
  obtain ⟨el, hu, he, ha⟩ := hτ.sl
  obtain ⟨i, z, h1, h2, h3, h4, h5, h6, h7⟩ := he.zero
  have hsz : i.size = 1 := h2
  refine ⟨el, ?_⟩
  have hm : ∀ f : Nat → Value, Array.map f (Array.range 1) = #[f 0] := fun f => by apply Array.ext'; simp
  simp [Instr.buildSlice, run_underlying hu, sizeOf, typeInfo, zeroValue, h1, hsz, h4, newRow, Instr.fill, hy, hm]

theorem buildD_left (hi : Inv c) {a : Ty} {t : TypeId} (hτ : TyOk P (.sl (.sl a)) t) {u v : AV} {y : Value} {s' : Store} (hr : Rep3 c u y) (h : buildD c.s a u = some (v, s')) :
    Left P c ((Instr.buildSlice t 1 #[(0, y)]).run P c.w) v s' := by
  unfold buildD at h
  split at h
  · rename_i j
    split at h
    · rename_i b0 ys hj
      obtain ⟨zs, hcast, h2⟩ := Option.map_eq_some_iff.mp h
      obtain ⟨eq, hzs⟩ := castD_some hcast
      obtain rfl : a = b0 := by simpa using eq.symm
      obtain rfl : ys = zs := hzs.symm
      obtain ⟨rfl, rfl⟩ := Prod.mk.inj h2
      have hone : y.oneCell' = true := hr.1
      have hr1 : Rep1 c (.all j) y := hr
      have hyc : y.cells = #[y] := by cases y <;> simp [Value.cells, Value.oneCell'] at hone ⊢
      obtain ⟨el, hrun⟩ := run_build1 (P := P) hτ hyc c.w
      rw [hrun]
      have hg := Grew.alloc c.w #[y] el
      have hrl : (c.r ++ [some c.w.heap.size])[c.s.length]? = some (some c.w.heap.size) := by rw [← hi.len]; simp
      have hat : ∀ bk : Blk, (⟨c.w.alloc (.cells #[y] el), c.N, c.r ++ [some c.w.heap.size], c.s ++ [bk]⟩ : Cx).at c.s.length c.w.heap.size #[y] := fun bk => ⟨hrl, el, hg.new⟩
      have hE0 := allocO_ext hi hg (.deep a [ys] (some (0, some j)))
      obtain ⟨g1, g2⟩ := allocO hi hg (.deep a [ys] (some (0, some j))) (by
        refine .inr ⟨_, _, hat _, by simp, fun q hq => ?_⟩
        simp only [List.length_singleton] at hq
        obtain rfl : q = 0 := by omega
        exact ⟨y, by simp, by simp only [DeepCell, if_pos]; exact Rep1.ext hi hE0 hr1⟩)
      refine ⟨_, _, rfl, rfl, g1, g2, rfl, .deep a [ys] (some (0, some j)), by simp, fun _ => ⟨some ⟨c.w.heap.size, 0, none⟩, 1, by simp [Blk.len], by simp [Blk.len], fun _ => ⟨_, _, hat _, rfl, by simp [Blk.sz]⟩⟩⟩
    · cases h
  · cases h

/-! ### made longer -/

/-- the state where a row has come behind those of block i -/
def Cx.snoc (c : Cx) (w' : World) (i k nx ob : Nat) (a : Ty) (rows : List (List a.D)) : Cx :=
  ⟨w', ⟨c.N.n, fun m p z => (m ≠ i ∧ m ≠ k ∧ m ≠ c.s.length ∧ c.N.d m p z) ∨ (m = c.s.length ∧ ((p < nx ∧ c.N.d i p z) ∨ (p = nx ∧ c.N.d k 0 z)))⟩, (c.r.set i none).set k none ++ [some ob], (c.s.set i .dead ++ [Blk.deep a rows none]).set k .dead⟩

theorem snoc_ok (hi : Inv c) {w' : World} {i k ob : Nat} {a : Ty} {xs : List (List a.D)} {zs : List a.D} (hsi : c.s[i]? = some (.deep a xs none)) (hsk : c.s[k]? = some (.deep a [zs] none)) (hne : i ≠ k)
    (hX : Ext c ⟨w', c.N, c.r, c.s.set i .dead⟩) (ho : ∀ m z, c.r[m]? = some (some z) → m ≠ i → w'.heap[z]? = c.w.heap[z]?) (hd : ∀ m p z, c.N.d m p z → w'.heap[z]? = c.w.heap[z]?)
    (hob : c.r[i]? = some (some ob) ∨ c.w.heap.size ≤ ob) (hob2 : ob < w'.heap.size) {cs : Array Value} {ty : TypeId} (hheap : w'.heap[ob]? = some (.cells cs ty (0, 0))) (hfit : xs.length + 1 ≤ cs.size)
    (hxs : ∀ q (h : q < xs.length), ∃ x, cs[q]? = some x ∧ RowIn c i q a xs[q] x) (hzs : ∃ x, cs[xs.length]? = some x ∧ RowIn c k 0 a zs x) :
    Inv (c.snoc w' i k xs.length ob a (xs ++ [zs])) ∧ Ext c (c.snoc w' i k xs.length ob a (xs ++ [zs])) := by
  have hil := (List.getElem?_eq_some_iff.1 hsi).1
  have hkl := (List.getElem?_eq_some_iff.1 hsk).1
  have hlen : ((c.r.set i none).set k none).length = c.s.length := by simp [hi.len]
  have hsz := hX.size
  have hr : ∀ (m : Nat), m < c.s.length → m ≠ i → m ≠ k → ((c.r.set i none).set k none ++ [some ob])[m]? = c.r[m]? := fun m h h1 h2 => by
    rw [List.getElem?_append_left (by rw [hlen]; exact h)]
    simp [List.getElem?_set, Ne.symm h1, Ne.symm h2]
  have hrown : ∀ (m z : Nat), ((c.r.set i none).set k none ++ [some ob])[m]? = some (some z) → (m ≠ i ∧ m ≠ k ∧ m < c.s.length ∧ c.r[m]? = some (some z)) ∨ (m = c.s.length ∧ z = ob) := fun m z h => by
    by_cases hm : m < c.s.length
    · have h' := h
      rw [List.getElem?_append_left (by rw [hlen]; exact hm)] at h'
      by_cases e1 : m = i
      · subst e1
        rw [List.getElem?_set_ne (Ne.symm hne)] at h'
        simp [List.getElem?_set] at h'
      · by_cases e2 : m = k
        · subst e2; simp [List.getElem?_set] at h'
        · rw [hr m hm e1 e2] at h
          exact .inl ⟨e1, e2, hm, h⟩
    · rw [List.getElem?_append_right (by rw [hlen]; omega)] at h
      have h3 := (List.getElem?_eq_some_iff.1 h).1
      simp only [List.length_singleton] at h3
      have h0 : m - ((c.r.set i none).set k none).length = 0 := by omega
      rw [h0] at h
      simp at h
      exact .inr ⟨by omega, h.symm⟩
  have hdown : ∀ m p z, (c.snoc w' i k xs.length ob a (xs ++ [zs])).N.d m p z → ∃ m' p', c.N.d m' p' z ∧ ((m' = m ∧ p' = p ∧ m ≠ i ∧ m ≠ k ∧ m ≠ c.s.length) ∨ (m = c.s.length ∧ m' = i ∧ p' = p ∧ p < xs.length) ∨ (m = c.s.length ∧ m' = k ∧ p' = 0 ∧ p = xs.length)) := fun m p z h => by
    rcases h with ⟨h1, h2, h3, h4⟩ | ⟨h1, ⟨h2, h3⟩ | ⟨h2, h3⟩⟩
    · exact ⟨m, p, h4, .inl ⟨rfl, rfl, h1, h2, h3⟩⟩
    · exact ⟨i, p, h3, .inr (.inl ⟨h1, rfl, rfl, h2⟩)⟩
    · exact ⟨k, 0, h3, .inr (.inr ⟨h1, rfl, rfl, h2⟩)⟩
  have hobd : ∀ m p, ¬ c.N.d m p ob := fun m p h => by
    rcases hob with h1 | h1
    · exact hi.dis i m p ob h1 h
    · have := (hi.own ob (.inr ⟨m, p, h⟩)).1; omega
  have hobr : ∀ m, m ≠ i → c.r[m]? ≠ some (some ob) := fun m hm h => by
    rcases hob with h1 | h1
    · exact hm (hi.inj m i ob h h1)
    · have := (hi.own ob (.inl ⟨m, h⟩)).1; omega
  have hown : ∀ z, (c.snoc w' i k xs.length ob a (xs ++ [zs])).owns z → c.owns z ∨ z = ob := fun z hz => by
    rcases hz with ⟨m, hz⟩ | ⟨m, p, hz⟩
    · rcases hrown m z hz with ⟨_, _, _, h⟩ | ⟨_, h⟩
      · exact .inl (.inl ⟨m, h⟩)
      · exact .inr h
    · obtain ⟨m', p', h, _⟩ := hdown m p z hz
      exact .inl (.inr ⟨m', p', h⟩)
  have gs : ∀ m, m < c.s.length → m ≠ i → m ≠ k → ((c.s.set i .dead ++ [Blk.deep a (xs ++ [zs]) none]).set k .dead)[m]? = c.s[m]? := fun m h h1 h2 => by
    rw [List.getElem?_set_ne (Ne.symm h2), List.getElem?_append_left (by simpa using h), List.getElem?_set_ne (Ne.symm h1)]
  have gi : ((c.s.set i .dead ++ [Blk.deep a (xs ++ [zs]) none]).set k .dead)[i]? = some .dead := by
    rw [List.getElem?_set_ne (Ne.symm hne), List.getElem?_append_left (by simpa using hil), List.getElem?_set_self hil]
  have gk : ((c.s.set i .dead ++ [Blk.deep a (xs ++ [zs]) none]).set k .dead)[k]? = some .dead := by
    rw [List.getElem?_set_self (by simp; omega)]
  have gl : ((c.s.set i .dead ++ [Blk.deep a (xs ++ [zs]) none]).set k .dead)[c.s.length]? = some (.deep a (xs ++ [zs]) none) := by
    rw [List.getElem?_set_ne (by omega), List.getElem?_append_right (by simp)]; simp
  have hE : Ext c (c.snoc w' i k xs.length ob a (xs ++ [zs])) := {
    os := hX.os
    tape := hX.tape
    output := hX.output
    fz := hX.fz
    size := hX.size
    out := hX.out
    shape := hX.shape
    nm := fun _ h => h
    nn := fun _ h => .inl h
    own := fun z hz => by
      rcases hown z hz with h | rfl
      · exact .inl h
      · exact hob.imp (fun h => .inl ⟨i, h⟩) fun h => h
    ids := fun m bm hm => by
      have hlt := (List.getElem?_eq_some_iff.1 hm).1
      by_cases e1 : m = i
      · subst e1; exact ⟨.dead, gi, fun h => h.elim⟩
      · by_cases e2 : m = k
        · subst e2; exact ⟨.dead, gk, fun h => h.elim⟩
        · exact ⟨bm, (gs m hlt e1 e2).trans hm, fun h => ⟨h, rfl, rfl, hr m hlt e1 e2⟩⟩ }
  refine ⟨⟨by simp [Cx.snoc, hi.len], fun m l z h1 h2 => ?_, fun m id p z h1 h2 => ?_, fun m p m' p' z h1 h2 => ?_, fun z hz => ?_, fun z hz => ?_, fun m bm hm => ?_⟩, hE⟩
  · rcases hrown m z h1 with ⟨e1, _, _, m1⟩ | ⟨m1, rfl⟩ <;> rcases hrown l z h2 with ⟨e2, _, _, m2⟩ | ⟨m2, e⟩
    · exact hi.inj m l z m1 m2
    · subst e; exact absurd m1 (hobr m e1)
    · exact absurd m2 (hobr l e2)
    · omega
  · obtain ⟨m', p', h, _⟩ := hdown id p z h2
    rcases hrown m z h1 with ⟨_, _, _, m1⟩ | ⟨_, rfl⟩
    · exact hi.dis m m' p' z m1 h
    · exact hobd m' p' h
  · obtain ⟨m1, p1, g1, o1⟩ := hdown m p z h1
    obtain ⟨m2, p2, g2, o2⟩ := hdown m' p' z h2
    obtain ⟨e1, e2⟩ := hi.din m1 p1 m2 p2 z g1 g2
    rcases o1 with ⟨q1, q2, q3, q4, q5⟩ | ⟨q1, q2, q3, q4⟩ | ⟨q1, q2, q3, q4⟩ <;> rcases o2 with ⟨w1, w2, w3, w4, w5⟩ | ⟨w1, w2, w3, w4⟩ | ⟨w1, w2, w3, w4⟩ <;> constructor <;> omega
  · rcases hown z hz with h | rfl
    · have := hi.own z h
      exact ⟨by show z < w'.heap.size; have := hX.size; simp only at this; omega, this.2⟩
    · refine ⟨hob2, fun hn => ?_⟩
      rcases hob with h1 | h1
      · exact (hi.own z (.inl ⟨i, h1⟩)).2 hn
      · have := hi.old z hn; omega
  · have := hi.old z hz
    have h2 := hX.size
    simp only at h2
    show z < w'.heap.size
    omega
  · have hm' : ((c.s.set i .dead ++ [Blk.deep a (xs ++ [zs]) none]).set k .dead)[m]? = some bm := hm
    by_cases hml : m < c.s.length
    · by_cases e1 : m = i
      · subst e1
        rw [gi] at hm'
        obtain rfl := Option.some.inj hm'
        trivial
      · by_cases e2 : m = k
        · subst e2
          rw [gk] at hm'
          obtain rfl := Option.some.inj hm'
          trivial
        · rw [gs m hml e1 e2] at hm'
          exact (hi.blk m bm hm').ext hi hE (hr m hml e1 e2) (fun z hz => ho m z hz e1) fun p z hz => ⟨hd m p z hz, .inl ⟨e1, e2, by omega, hz⟩⟩
    · have h3 := (List.getElem?_eq_some_iff.1 hm').1
      simp only [List.length_set, List.length_append, List.length_singleton] at h3
      have h0 : m = c.s.length := by omega
      subst h0
      rw [gl] at hm'
      obtain rfl := Option.some.inj hm'
      have hN : ∀ z, c.N z → (c.snoc w' i k xs.length ob a (xs ++ [zs])).N z ∧ (c.snoc w' i k xs.length ob a (xs ++ [zs])).w.heap[z]? = c.w.heap[z]? := hE.N hi
      refine .inr ⟨ob, cs, ⟨by show ((c.r.set i none).set k none ++ [some ob])[c.s.length]? = _; rw [List.getElem?_append_right (by omega)]; simp [hlen], ty, hheap⟩, by simpa using hfit, fun q hq => ?_⟩
      simp only [List.length_append, List.length_singleton] at hq
      rw [List.getElem_append]
      split
      · rename_i hlt
        obtain ⟨x, hx, hrow⟩ := hxs q hlt
        obtain ⟨base, cap, f1, f2, f3⟩ := hrow
        refine ⟨x, hx, base, cap, f1, f2, fun hc => ?_⟩
        obtain ⟨b2, cs2, ty2, m1, m2, m3, m4, m5, m6⟩ := f3 hc
        exact ⟨b2, cs2, ty2, m1, .inr ⟨rfl, .inl ⟨hlt, m2⟩⟩, (hd i q b2 m2).trans m3, m4, fun j hj => (m5 j hj).mono hN, m6.mono hN⟩
      · rename_i hge
        obtain rfl : q = xs.length := by omega
        obtain ⟨x, hx, hrow⟩ := hzs
        obtain ⟨base, cap, f1, f2, f3⟩ := hrow
        simp only [Nat.sub_self, List.getElem_cons_zero]
        refine ⟨x, hx, base, cap, f1, f2, fun hc => ?_⟩
        obtain ⟨b2, cs2, ty2, m1, m2, m3, m4, m5, m6⟩ := f3 hc
        exact ⟨b2, cs2, ty2, m1, .inr ⟨rfl, .inr ⟨rfl, m2⟩⟩, (hd k 0 b2 m2).trans m3, m4, fun j hj => (m5 j hj).mono hN, m6.mono hN⟩

theorem snoc_rep (hi : Inv c) {w' : World} {i k nx ob n cap : Nat} {a : Ty} {rows : List (List a.D)} (hk : k < c.s.length) {cs : Array Value} {ty : TypeId} (hheap : w'.heap[ob]? = some (.cells cs ty (0, 0))) (hn : rows.length = n) (hc : n ≤ cap) (hfit : cap ≤ cs.size) :
    Rep3 (c.snoc w' i k nx ob a rows) (.all c.s.length) (.slice (some ⟨ob, 0, none⟩) n cap) := by
  have hlen : ((c.r.set i none).set k none).length = c.s.length := by simp [hi.len]
  have gl : ((c.s.set i .dead ++ [Blk.deep a rows none]).set k .dead)[c.s.length]? = some (.deep a rows none) := by
    rw [List.getElem?_set_ne (by omega), List.getElem?_append_right (by simp)]; simp
  refine ⟨rfl, .deep a rows none, gl, fun _ => ⟨_, cap, by simp [Blk.len, hn], by simpa [Blk.len, hn] using hc, fun _ => ⟨ob, cs, ⟨?_, ty, hheap⟩, rfl, by simpa [Blk.sz] using hfit⟩⟩⟩
  show ((c.r.set i none).set k none ++ [some ob])[c.s.length]? = _
  rw [List.getElem?_append_right (by omega)]
  simp [hlen]

/-- a block is given up, and the heap grows by a row -/
theorem grow_ext (hi : Inv c) {w' : World} {o : Obj} (hg : Grew c.w w' o) {i : Nat} (hil : i < c.s.length) : Ext c ⟨w', c.N, c.r, c.s.set i .dead⟩ where
  os := hg.os
  tape := hg.tape
  output := hg.output
  fz := fun a _ => hg.fz a
  size := by have := hg.size; show _ ≤ w'.heap.size; omega
  out := fun b hb _ => hg.old hb
  shape := hg.shape
  nm := fun _ h => h
  nn := fun _ h => .inl h
  own := fun _ h => .inl h
  ids := fun id bk hb => by
    by_cases e : i = id
    · subst e
      exact ⟨.dead, by show (c.s.set i _)[i]? = _; rw [List.getElem?_set_self hil], fun h => h.elim⟩
    · exact ⟨bk, by show (c.s.set i _)[id]? = _; rw [List.getElem?_set_ne e]; exact hb, fun hl => ⟨hl, rfl, rfl, rfl⟩⟩

theorem appendD1_left (hi : Inv c) {a a2 : Ty} {t u ty : TypeId} (hτ : TyOk P (.sl (.sl a)) t) (hτu : TyOk P (.sl a2) u) {ts : Array TypeId} {args : Array Value} (ht0 : ts[0]? = some t) (ht1 : ts[1]? = some u) {p q : Value} (h0 : args[0]? = some p) (h1 : args[1]? = some q)
    {i k : Nat} (hb : Rep3 c (.all i) p) (hy : Rep3 c (.all k) q) {v : AV} {s' : Store} (h : appendD1 c.s a i k = some (v, s')) : Left P c ((Builtin.append_ ts ty args).run P c.w) v s' := by
  unfold appendD1 at h
  split at h
  case h_2 => cases h
  rename_i b0 xss b1 z hsi hsk
  split at h
  case isFalse => cases h
  rename_i hne
  obtain ⟨xs, hc1, h⟩ := Option.bind_eq_some_iff.mp h
  obtain ⟨zs, hc2, h⟩ := Option.bind_eq_some_iff.mp h
  obtain ⟨eq, hxs⟩ := castD_some hc1
  obtain rfl : a = b0 := by simpa using eq.symm
  obtain rfl : xss = xs := hxs.symm
  obtain ⟨eq, hzs⟩ := castD_some hc2
  obtain rfl : a = b1 := by simpa using eq.symm
  obtain rfl : z = zs := hzs.symm
  split at h
  case isFalse => cases h
  rename_i hlim
  obtain ⟨rfl, rfl⟩ := Prod.mk.inj (Option.some.inj h)
  obtain ⟨e, hu, he, ha⟩ := hτ.sl
  obtain ⟨e', hu', _, _⟩ := hτu.sl
  obtain ⟨inf, zv, hinf, hsz, hby, hz, hz5, hz6, hz7⟩ := he.zero
  have hsz1 : inf.size = 1 := hsz
  have hil := (List.getElem?_eq_some_iff.1 hsi).1
  have hkl := (List.getElem?_eq_some_iff.1 hsk).1
  obtain ⟨_, bk, hbk, hb⟩ := hb
  rw [hsi] at hbk
  obtain rfl := Option.some.inj hbk
  obtain ⟨base, cap, rfl, hlc, hcap⟩ := hb trivial
  obtain ⟨_, bk, hbk, hy⟩ := hy
  rw [hsk] at hbk
  obtain rfl := Option.some.inj hbk
  obtain ⟨base2, cap2, rfl, hlc2, hcap2⟩ := hy trivial
  simp only [Blk.len, Blk.sz, List.length_singleton, Nat.mul_one] at hlc hcap hlc2 hcap2 h0 h1
  -- the new row
  obtain ⟨b2, cs2, hat2, hbase2, hfit2⟩ := hcap2 (by omega)
  have hkB : ∃ x, cs2[0]? = some x ∧ RowIn c k 0 a z x := by
    rcases hi.blk k _ hsk with hB | ⟨b', cs', hat', _, hcell⟩
    · cases hB
    · obtain ⟨rfl, rfl⟩ := at_eq hat2 hat'
      obtain ⟨x, k1, k2⟩ := hcell 0 (by simp)
      exact ⟨x, k1, by simpa [DeepCell] using k2⟩
  obtain ⟨x, hx, hrow⟩ := hkB
  have hxone : x.oneCell' = true := by obtain ⟨_, _, rfl, _⟩ := hrow; rfl
  obtain ⟨hr2, ty2, hh2⟩ := hat2
  have hseg : [x] = seg cs2 0 1 := by
    unfold seg
    have := hx
    rw [← Array.getElem?_toList] at this
    cases hl : cs2.toList with
    | nil => rw [hl] at this; simp at this
    | cons y r => rw [hl] at this; simp at this; simp [this]
  have hsrc : Src c.w base2 1 inf.size [x] := by
    rw [hsz1]
    exact ⟨rfl, fun _ => ⟨b2, 0, cs2, ty2, (0, 0), hbase2, hh2, by omega, hseg⟩⟩
  have htl : Tail P ts args inf zv 1 [x] c.w := Tail.ofSrc ht1 hu' h1 hsrc
  -- the old rows
  have hold : ∀ b cs, c.at i b cs → ∀ j (hj : j < xss.length), ∃ x, cs[j]? = some x ∧ RowIn c i j a xss[j] x := fun b cs hat j hj => by
    rcases hi.blk i _ hsi with hB | ⟨b', cs', hat', _, hcell⟩
    · subst hB; simp at hj
    · obtain ⟨rfl, rfl⟩ := at_eq hat hat'
      obtain ⟨x, k1, k2⟩ := hcell j hj
      exact ⟨x, k1, by simpa [DeepCell] using k2⟩
  by_cases hroom : xss.length + 1 ≤ cap
  · -- there is room
    obtain ⟨b, cs, hat, hbase, hfit⟩ := hcap (by omega)
    subst hbase
    have hcell := hold b cs hat
    obtain ⟨hr1, tb, hb1⟩ := hat
    have hrun := run_append_in (P := P) (ty := ty) ht0 hu hinf hz hby (by rw [hz6, hsz]) h0 htl hroom hb1 (by rw [hsz1]; omega) (fun y hy => by simp at hy; rw [hy]; exact hxone)
    rw [hrun]
    simp only [hsz1, Nat.mul_one, Nat.zero_add]
    have hw : Wrote c.w (c.w.setRow b (overA cs xss.length [x])) b (overA cs xss.length [x]) tb := Wrote.setRow hb1
    have hsize := overA_size (cs := cs) (o := xss.length) (vs := [x]) (by simp; omega)
    have hget : ∀ q, q ≤ xss.length → (overA cs xss.length [x])[q]? = if q = xss.length then some x else cs[q]? := fun q hq => by
      rw [← Array.getElem?_toList]
      unfold overA
      simp only [List.getElem?_append, List.length_append, List.length_take, Array.length_toList, List.length_singleton, List.getElem?_take, List.getElem?_drop]
      have e1 : min xss.length cs.size = xss.length := by omega
      simp only [e1]
      by_cases q1 : q < xss.length
      · have : q ≠ xss.length := by omega
        simp [q1, this, show q < xss.length + 1 by omega]
      · obtain rfl : q = xss.length := by omega
        simp
    have hX := write_ext hi hr1 hb1 hw hsize hsi (bk' := .dead) (fun hl => hl.elim)
    have hbn : ∀ m z, c.r[m]? = some (some z) → m ≠ i → z ≠ b := fun m z h1 h2 e => h2 (hi.inj m i z h1 (by rw [e]; exact hr1))
    obtain ⟨g1, g2⟩ := snoc_ok hi (w' := c.w.setRow b (overA cs xss.length [x])) (ob := b) hsi hsk hne hX (fun m z h1 h2 => hw.other z (hbn m z h1 h2)) (fun m p z h => hw.other z fun e => hi.dis i m p z (by rw [e]; exact hr1) h)
      (.inl hr1) (by rw [hw.size]; exact (hi.own b (.inl ⟨i, hr1⟩)).1) hw.here (by rw [hsize]; omega)
      (fun j hj => by
        obtain ⟨y, k1, k2⟩ := hcell j hj
        exact ⟨y, by rw [hget j (by omega), if_neg (by omega)]; exact k1, k2⟩)
      ⟨x, by rw [hget _ (Nat.le_refl _), if_pos rfl], hrow⟩
    exact ⟨_, _, rfl, rfl, g1, g2, snoc_rep hi hkl hw.here (by simp) hroom (by rw [hsize]; exact hfit)⟩
  · -- a new row
    have holds : ∃ olds, Src c.w base xss.length inf.size olds ∧ olds.length = xss.length ∧ ∀ j (hj : j < xss.length), ∃ x, olds[j]? = some x ∧ RowIn c i j a xss[j] x := by
      rw [hsz1]
      by_cases hx0 : xss.length = 0
      · exact ⟨[], ⟨by simp [hx0], fun h => by simp at h⟩, by simp [hx0], fun j hj => by omega⟩
      · obtain ⟨b, cs, hat, hbase, hfit⟩ := hcap (by omega)
        have hcell := hold b cs hat
        have hl : (seg cs 0 xss.length).length = xss.length := seg_length (by omega)
        refine ⟨seg cs 0 xss.length, ⟨by rw [hl, Nat.mul_one], fun _ => ⟨b, 0, cs, hat.2.choose, (0, 0), hbase, hat.2.choose_spec, by omega, by rw [Nat.mul_one]⟩⟩, hl, fun j hj => ?_⟩
        rw [seg_get hj, Nat.zero_add]
        exact hcell j hj
    obtain ⟨olds, ho1, ho2, ho3⟩ := holds
    simp only [bigRow] at hlim
    obtain ⟨cap', w', hrun, hcap', rest, hgrew, hlen, kz, hrest⟩ := run_append_out (P := P) (ty := ty) ht0 hu hinf hz h0 ho1 htl (by omega) hlim hby (by rw [hz6, hsz])
    rw [hrun]
    rw [hsz1, Nat.mul_one] at hlen
    have hX := grow_ext hi hgrew hil
    have hsize : (olds ++ [x] ++ rest).toArray.size = cap' := by simpa using hlen
    obtain ⟨g1, g2⟩ := snoc_ok hi (w' := w') (ob := c.w.heap.size) hsi hsk hne hX (fun m z h1 _ => hgrew.old (hi.own z (.inl ⟨m, h1⟩)).1) (fun m p z h => hgrew.old (hi.own z (.inr ⟨m, p, h⟩)).1)
      (.inr (Nat.le_refl _)) (by rw [hgrew.size]; omega) hgrew.new (by rw [hsize]; exact hcap')
      (fun j hj => by
        obtain ⟨y, k1, k2⟩ := ho3 j hj
        refine ⟨y, ?_, k2⟩
        have hj2 : j < olds.length := by omega
        simp only [List.getElem?_toArray, List.append_assoc]
        rw [List.getElem?_append_left hj2]; exact k1)
      ⟨x, by
        simp only [List.getElem?_toArray, List.append_assoc]
        rw [List.getElem?_append_right (by omega), ho2]; simp, hrow⟩
    exact ⟨_, _, rfl, rfl, g1, g2, snoc_rep hi hkl hgrew.new (by simp) hcap' (by rw [hsize]; exact Nat.le_refl _)⟩

theorem appendD_left (hi : Inv c) {a a2 : Ty} {t u ty : TypeId} (hτ : TyOk P (.sl (.sl a)) t) (hτu : TyOk P (.sl a2) u) {ts : Array TypeId} {args : Array Value} (ht0 : ts[0]? = some t) (ht1 : ts[1]? = some u) {p q : Value} (h0 : args[0]? = some p) (h1 : args[1]? = some q)
    {base y : AV} (hb : Rep3 c base p) (hy : Rep3 c y q) {v : AV} {s' : Store} (h : appendD c.s a base y = some (v, s')) : Left P c ((Builtin.append_ ts ty args).run P c.w) v s' := by
  unfold appendD at h
  split at h
  · rename_i i k
    obtain ⟨c2, w2, s2, i2, e2⟩ := settle1_ok hi k
    rw [← s2] at h
    have := appendD1_left (P := P) i2 hτ hτu ht0 ht1 h0 h1 (hb.ext hi e2) (hy.ext hi e2) (ty := ty) h
    rw [w2] at this
    exact Left.trans e2 this
  · cases h

theorem storeW_rep (hi : Inv c) {τ : Ty} {t : TypeId} (hτ : TyOk P τ t) {p v : AV} {x y : Value} {s' : Store} (hp : Rep3 c p x) (hv : Rep3 c v y) (h : storeW c.s τ p v = some s') :
    ∃ c', (Instr.storeAt t x y).run P c.w = .ok () c'.w ∧ c'.s = s' ∧ Inv c' ∧ Ext c c' := by
  unfold storeW at h
  split at h
  · rename_i s1 hs
    obtain rfl := Option.some.inj h
    exact storeV_rep hi hτ hp hv hs
  · exact storeD_rep hi hτ hp hv h

end
end Go.Ev

/-
  EVERY OPERATION THAT THE EVALUATOR KNOWS, calls of functions left out.
-/
namespace Go.Ev

section
variable {P : Program} {T : Tab} {c : Cx} {a : Act} {e : Env}

theorem Done.ofLeft {o : Oper} {v : AV} {s' : Store} {run : Result Value} (hrun : (execOp a.eval o).run P c.w = run.andThen fun x w => .ok (.value x) w) (h : Left P c run v s') : Done P a o c v s' := by
  obtain ⟨x, c', rfl, h2, h3, h4, h5⟩ := h
  exact ⟨.value x, x, c', hrun, .inl rfl, h2, h3, h4, h5⟩

theorem pu_some {x : Option AV} {s : Store} {v : AV} {s' : Store} (h : (x.map fun v => (v, s)) = some (v, s')) : x = some v ∧ s' = s := by
  cases x with
  | none => simp at h
  | some y => simp at h; exact ⟨by rw [h.1], h.2.symm⟩

theorem parts_rep (he : RepE c e a.tmps) (t : TypeId) : ∀ (l : List (Nat × Operand)), All2 (fun (p : Nat × AV) (q : Nat × Value) => p.1 = q.1 ∧ Rep3 c p.2 q.2) (l.map fun p => (p.1, opnd T t e p.2)) (l.map fun p => (p.1, a.eval p.2))
  | [] => trivial
  | p :: l => ⟨⟨rfl, opnd_rep he p.2⟩, parts_rep he t l⟩

theorem sameOpnd_eval {l k : Operand} (h : sameOpnd l k = true) {x : Value} {n : Int} {ki : IntKind} (hl : a.eval l = x) (hx : x = .int ki n) : ∃ kj, a.eval k = .int kj n := by
  unfold sameOpnd at h
  split at h
  · simp only [beq_iff_eq] at h
    subst h
    exact ⟨ki, by rw [hl, hx]⟩
  · simp only [beq_iff_eq] at h
    subst h
    simp only [Act.eval] at hl ⊢
    subst hl
    simp only [Value.int.injEq] at hx
    exact ⟨_, by rw [hx.2]⟩
  · cases h

theorem run_makeS {A : Ty} {t : TypeId} (hτ : TyOk P (.sl A) t) {n : Nat} {k k' : IntKind} (hn : n ≤ bigRow) (w : World) :
    ∃ cs ty, (Instr.makeSlice t (.int k (n : Int)) (.int k' (n : Int))).run P w = .ok (.slice (some ⟨w.heap.size, 0, none⟩) n n) (w.alloc (.cells cs ty)) ∧ cs.size = n * A.size ∧ ∀ N, RepL w N A (List.replicate n A.zero) cs := by
  obtain ⟨el, hu, he, ha⟩ := hτ.sl
  obtain ⟨i, z, h1, h2, h3, h4, h5, h6, h7⟩ := he.zero
  have hb : i.bytes * n ≤ 281474976710656 := by
    have := Nat.mul_le_mul h3 hn
    simp only [bigRow] at this
    omega
  have hb' : (i.bytes : Int) * (n : Int) ≤ 281474976710656 := by
    have h : ((i.bytes * n : Nat) : Int) ≤ 281474976710656 := by omega
    rwa [Int.natCast_mul] at h
  simp only [bigRow] at hn
  have hr := run_make (P := P) w t el i z hu h1 h4 k k' n n (by omega) (Int.le_refl _) hb' (by omega)
  simp only [Int.toNat_natCast] at hr
  refine ⟨_, el, hr, by rw [size_madeCells, h2], fun N => zero_row he ⟨i, h1, h4⟩ w N n (fun j hj => ?_) (by rw [size_madeCells, h2]; exact Nat.le_refl _)⟩
  rw [← h2] at hj
  have hlt : j % A.size < z.cells.size := by rw [h6]; exact Nat.mod_lt _ ha
  simp only [madeCells, Array.getElem?_map, Array.getElem?_range, hj, if_true, Option.map_some, h6]
  rw [Array.getElem?_eq_getElem hlt, getElem!_pos z.cells _ hlt]

theorem RepL_set {w : World} {N : Nat → Prop} {A : Ty} {xs : List A.D} {cs : Array Value} {x : A.D} {ds : List Value} {i : Nat} (h : RepL w N A xs cs) (hd : RepC w N A x ds) (hi : i < xs.length) : RepL w N A (xs.set i x) (overA cs (i * A.size) ds) := by
  have hdl := hd.length
  have hle := le_mul (n := A.size) hi
  have hfit := h.1
  refine ⟨by rw [overA_size (by omega)]; simpa using h.1, fun j hj => ?_⟩
  simp only [List.length_set] at hj
  have hlj := le_mul (n := A.size) hj
  rw [List.getElem_set]
  split
  · rename_i e
    subst e
    rw [seg_over_in (Nat.le_refl _) (by omega) (by omega), Nat.sub_self, List.take_zero, List.nil_append, Nat.zero_add]
    rw [List.drop_of_length_le (by rw [seg_length (by omega)]; omega), List.append_nil]
    exact hd
  · rename_i hne
    have hdis := apart_mul (n := A.size) (show j ≠ i from fun e => hne e.symm)
    rw [seg_over_out (by omega) (by omega)]
    exact h.2 j hj

theorem VC.cells {A : Ty} {x : Value} {cs : List Value} (h : VC A x cs) (h1 : ∀ y ∈ cs, y.oneCell' = true) : x.cells.toList = cs := by
  unfold VC at h
  split at h
  · subst h; simp [Value.cells]
  · subst h
    have := h1 x (by simp)
    cases x <;> simp [Value.cells, Value.oneCell'] at this ⊢

theorem fillRow_rep {A : Ty} : ∀ {ps : List (Nat × AV)} {qs : List (Nat × Value)} {xs ys : List A.D} {cs : Array Value}, All2 (fun (p : Nat × AV) (q : Nat × Value) => p.1 = q.1 ∧ Rep3 c p.2 q.2) ps qs → RepL c.w c.N A xs cs → setAll A ps xs = some ys →
    ∃ cs', Instr.fill (fun i => some (i * A.size, A.size)) cs qs = some cs' ∧ RepL c.w c.N A ys cs' ∧ ys.length = xs.length ∧ cs'.size = cs.size
  | [], [], xs, ys, cs, _, hr, h => by
    simp only [setAll, Option.some.injEq] at h
    subst h
    exact ⟨cs, rfl, hr, rfl, rfl⟩
  | (i, v) :: ps, (j, x) :: qs, xs, ys, cs, hq, hr, h => by
    obtain ⟨⟨hij, hvx⟩, hq⟩ := hq
    simp only at hij hvx
    subst hij
    simp only [setAll] at h
    cases hs : snap [] A v with
    | none => simp [hs] at h
    | some y =>
      simp only [hs, Option.bind_some] at h
      split at h
      · rename_i hlt
        obtain ⟨ds, d1, d2⟩ := snap0_rep hvx hs
        have hxc := d1.cells d2.one
        have hdl := d2.length
        have hxs : x.cells.size = A.size := by rw [← hdl, ← hxc]; simp
        have hle := le_mul (n := A.size) hlt
        have hfit := hr.1
        have hov := fold_over (i * A.size) x.cells.toList 0 cs (by simp; omega)
        simp only [Nat.add_zero] at hov
        have e : (x.cells.zipIdx.foldl (fun (cs : Array Value) (y : Value × Nat) => cs.setIfInBounds (i * A.size + y.2) y.1) cs) = overA cs (i * A.size) ds := by
          have e1 : (x.cells.zipIdx.foldl (fun (cs : Array Value) (y : Value × Nat) => cs.setIfInBounds (i * A.size + y.2) y.1) cs) = (x.cells.toList.zipIdx 0).foldl (fun (cs : Array Value) (y : Value × Nat) => cs.setIfInBounds (i * A.size + y.2) y.1) cs := by
            rw [← Array.foldl_toList]
            congr 1
            simp [Array.toList_zipIdx]
          rw [e1]
          apply Array.ext'
          rw [hov, hxc]
          simp [overA]
        obtain ⟨cs', k1, k2, k3, k4⟩ := fillRow_rep hq (RepL_set hr d2 hlt) h
        refine ⟨cs', ?_, k2, by simpa using k3, by rw [k4]; exact overA_size (by omega)⟩
        unfold Instr.fill
        simp only [hxs]
        rw [if_neg (by simp; omega), e]
        exact k1
      · cases h
  | [], _ :: _, _, _, _, hq, _, _ => hq.elim
  | _ :: _, [], _, _, _, hq, _, _ => hq.elim

theorem run_buildS {A : Ty} {t : TypeId} (hτ : TyOk P (.sl A) t) {n : Nat} {ps : List (Nat × AV)} {qs : Array (Nat × Value)} (hn : n * A.size ≤ 100000) (hq : All2 (fun (p : Nat × AV) (q : Nat × Value) => p.1 = q.1 ∧ Rep3 c p.2 q.2) ps qs.toList) {ys : List A.D}
    (h : setAll A ps (List.replicate n A.zero) = some ys) :
    ∃ cs ty, (Instr.buildSlice t n qs).run P c.w = .ok (.slice (some ⟨c.w.heap.size, 0, none⟩) n n) (c.w.alloc (.cells cs ty)) ∧ RepL c.w c.N A ys cs ∧ ys.length = n ∧ cs.size ≤ n * A.size := by
  obtain ⟨el, hu, he, ha⟩ := hτ.sl
  obtain ⟨i, z, h1, h2, h3, h4, h5, h6, h7⟩ := he.zero
  have hrow := zero_row he ⟨i, h1, h4⟩ c.w c.N n (cs := madeCells z.cells (n * A.size)) (fun j hj => by
    have hlt : j % A.size < z.cells.size := by rw [h6]; exact Nat.mod_lt _ ha
    simp only [madeCells, Array.getElem?_map, Array.getElem?_range, hj, if_true, Option.map_some, h6]
    rw [Array.getElem?_eq_getElem hlt, getElem!_pos z.cells _ hlt]) (by rw [size_madeCells]; exact Nat.le_refl _)
  obtain ⟨cs', k1, k2, k3, k4⟩ := fillRow_rep hq hrow h
  refine ⟨cs', el, ?_, k2, by simpa using k3, by rw [k4, size_madeCells]; exact Nat.le_refl _⟩
  have hlim : ¬ (n * i.size > 2 ^ 24) := by rw [h2]; omega
  by_cases h0 : n * A.size = 0
  · have k1' : Instr.fill (fun i => some (i * A.size, A.size)) #[] qs.toList = some cs' := by
      have : madeCells z.cells (n * A.size) = #[] := Array.eq_empty_of_size_eq_zero (by rw [size_madeCells, h0])
      rw [this] at k1; exact k1
    simp [Instr.buildSlice, run_underlying hu, sizeOf, typeInfo, h1, h2, h0, k1', newRow, Array.range_zero']
  · have k1' : Instr.fill (fun i => some (i * A.size, A.size)) (Array.map (fun x => z.cells[x % z.cells.size]!) (Array.range (n * A.size))) qs.toList = some cs' := k1
    have hlim' : ¬ (16777216 < n * A.size) := by omega
    simp [Instr.buildSlice, run_underlying hu, sizeOf, typeInfo, zeroValue, h1, h2, h4, h0, hlim', k1', newRow]

theorem foldI_rep {f : Int → Int → Int} {g : Value → Value → Sem Value} (hg : ∀ (k k' : IntKind) (x y : Int) (w : World), (g (.int k x) (.int k' y)).run P w = .ok (.int k (f x y)) w) :
    ∀ {vs : List AV} {xs : List Value} {k : IntKind} {n m : Int}, All2 (Rep3 c) vs xs → (vs.foldl (fun acc y => acc.bind fun b => (asI y).map fun c => f b c.2) (some n)) = some m → (xs.foldlM g (.int k n)).run P c.w = .ok (.int k m) c.w
  | [], [], k, n, m, _, h => by simp at h; subst h; simp
  | v :: vs, x :: xs, k, n, m, hr, h => by
    simp only [List.foldl_cons] at h
    cases hv : asI v with
    | none =>
      simp only [hv, Option.map_none, Option.bind_some] at h
      have : ∀ (l : List AV), l.foldl (fun acc y => acc.bind fun b => (asI y).map fun c => f b c.2) (none : Option Int) = none := fun l => by
        induction l with
        | nil => rfl
        | cons a l ih => simpa using ih
      rw [this] at h; cases h
    | some y =>
      obtain ⟨k', b⟩ := y
      simp only [hv, Option.map_some, Option.bind_some] at h
      have hx := asI_rep hv hr.1
      subst hx
      simp only [List.foldlM_cons, Sem.run_bind, hg, Result.andThen_ok]
      exact foldI_rep hg hr.2 h
  | [], _ :: _, _, _, _, hr, _ => hr.elim
  | _ :: _, [], _, _, _, hr, _ => hr.elim

end
end Go.Ev

/-
  EVERY OPERATION THAT THE EVALUATOR KNOWS, calls of functions left out: what it computes is what the machine does.
-/
namespace Go.Ev

section
variable {P : Program} {T : Tab} {c : Cx} {a : Act} {e : Env}

theorem Left.pure {v : AV} {x : Value} (hi : Inv c) (h : Rep3 c v x) : Left P c (.ok x c.w) v c.s := ⟨x, c, rfl, rfl, hi, Ext.refl c, h⟩

theorem alloc_left (hi : Inv c) {A : Ty} {t : TypeId} (hτ : TyOk P A t) (mu : Bool) {v : AV} {s' : Store}
    (h : mkVar mu c.s A (if mu then (if A.isAgg then (match allD A (zeroCells A) with | some x => .d A x | none => .agg (zeroCells A)) else (zeroCells A).headD .any) else .d A A.zero) = some (v, s')) :
    Left P c ((Instr.alloc t true (.tuple #[])).run P c.w) v s' := by
  obtain ⟨i, z, h1, h2, h3, h4, h5, h6, h7⟩ := hτ.zero
  have hz := zeroIs_cells (c := c) h5
  have hz' := flat_rep (c := c) (zeroIs_rep (w := c.w) (N := c.N) h5)
  have hlen : (zeroCells A).length = A.size := by rw [hz.length]; simp [h6]
  have hcl : ∀ u : AV, All2 (Rep1 c) u.cells z.cells.toList → u.cells.length = A.size := fun u hu => by rw [hu.length]; simp [h6]
  have hu : All2 (Rep1 c) (if mu then (if A.isAgg then (match allD A (zeroCells A) with | some x => (.d A x : AV) | none => .agg (zeroCells A)) else (zeroCells A).headD .any) else .d A A.zero).cells z.cells.toList := by
    split
    · split
      · split
        · rename_i x hx
          exact flat_rep (allD_rep hz hx)
        · exact hz
      · rename_i hA
        cases A with
        | nil => simp [Ty.isAgg] at hA
        | cons _ _ => simp [Ty.isAgg] at hA
        | _ => exact hz
    · exact hz'
  have hrun : (Instr.alloc t true (.tuple #[])).run P c.w = .ok (.pointer (some ⟨c.w.heap.size, 0, none⟩)) (c.w.alloc (.cells z.cells t)) := by
    simp [Instr.alloc, zeroValue, typeInfo, h1, h4, newVar, newRow]
  rw [hrun]
  exact var_rep hi (Grew.alloc _ _ _) mu hu (hcl _ hu) h

theorem box_left (hi : Inv c) {A : Ty} {t : TypeId} (hτ : TyOk P A t) (mu : Bool) {u v : AV} {x : Value} {s' : Store} (hr : Rep3 c u x) (hl : u.cells.length = A.size)
    (h : mkVar mu c.s A u = some (v, s')) : Left P c ((Instr.box t x).run P c.w) v s' := by
  have hpos := hτ.pos
  have hne : u.cells ≠ [] := by intro e; rw [e] at hl; simp at hl; omega
  have h2 : Rep2 c u x := Rep2_of3 hr (fun vs e => by subst e; simp [AV.cells] at hne)
  have hrun : (Instr.box t x).run P c.w = .ok (.pointer (some ⟨c.w.heap.size, 0, none⟩)) (c.w.alloc (.cells x.cells t)) := by
    simp [Instr.box, newVar, newRow]
  rw [hrun]
  exact var_rep hi (Grew.alloc _ _ _) mu (cells_rep h2 hne) hl h

theorem makeS_left (hi : Inv c) {A : Ty} {t : TypeId} (hτ : TyOk P (.sl A) t) (mu : Bool) {n : Nat} {k k' : IntKind} (hn : n ≤ bigRow) {v : AV} {s' : Store} (h : mkRow mu c.s A (List.replicate n A.zero) = (v, s')) :
    Left P c ((Instr.makeSlice t (.int k (n : Int)) (.int k' (n : Int))).run P c.w) v s' := by
  obtain ⟨cs, ty, hr, hs, hx⟩ := run_makeS hτ (k := k) (k' := k') hn c.w
  rw [hr]
  have := row_rep (P := P) hi (Grew.alloc c.w cs ty) mu (hx c.N) (cap := n) (by simp) (by omega) (Sp.full (by simp; omega)) h
  simpa using this

theorem slOf_some {mu : Bool} {a b : Ty} (h : slOf mu a = some b) : mu = true ∧ a = .sl b := by
  unfold slOf at h
  split at h
  · exact ⟨rfl, by simpa using h⟩
  · cases h

theorem makeW_left (hi : Inv c) {A : Ty} {t : TypeId} (hτ : TyOk P (.sl A) t) (mu : Bool) {n : Nat} {k k' : IntKind} (hn : n ≤ bigRow) {v : AV} {s' : Store} (h : mkMake mu c.s A n = (v, s')) :
    Left P c ((Instr.makeSlice t (.int k (n : Int)) (.int k' (n : Int))).run P c.w) v s' := by
  unfold mkMake at h
  split at h
  · rename_i b hb
    obtain ⟨_, rfl⟩ := slOf_some hb
    have := makeD_left (P := P) hi hτ (k := k) (k' := k') hn
    rw [h] at this
    exact this
  · exact makeS_left hi hτ mu hn h

theorem buildS_left (hi : Inv c) {A : Ty} {t : TypeId} (hτ : TyOk P (.sl A) t) (mu : Bool) {n : Nat} {ps : List (Nat × AV)} {qs : Array (Nat × Value)} (hn : n * A.size ≤ 100000)
    (hq : All2 (fun (p : Nat × AV) (q : Nat × Value) => p.1 = q.1 ∧ Rep3 c p.2 q.2) ps qs.toList) {ys : List A.D} (hy : setAll A ps (List.replicate n A.zero) = some ys) {v : AV} {s' : Store} (h : mkRow mu c.s A ys = (v, s')) :
    Left P c ((Instr.buildSlice t n qs).run P c.w) v s' := by
  obtain ⟨cs, ty, hr, hx, hl, hcs⟩ := run_buildS hτ hn hq hy
  rw [hr]
  have := row_rep (P := P) hi (Grew.alloc c.w cs ty) mu hx (cap := n) (by omega) (by have := hx.1; rw [hl] at this; exact this) (Sp.full (by rw [hl]; exact hcs)) h
  rw [hl] at this
  exact this

theorem buildS0_left (hi : Inv c) {A : Ty} {t : TypeId} (hτ : TyOk P (.sl A) t) (mu : Bool) {qs : Array (Nat × Value)} (hq : qs.toList = []) {v : AV} {s' : Store}
    (h : (if mu then (AV.all c.s.length, c.s ++ [Blk.data A []]) else (.e0 A, c.s)) = (v, s')) : Left P c ((Instr.buildSlice t 0 qs).run P c.w) v s' := by
  obtain ⟨el, hu, he, ha⟩ := hτ.sl
  obtain ⟨i, z, h1, h2, h3, h4, h5, h6, h7⟩ := he.zero
  have hq' : qs = #[] := by cases qs; simpa using hq
  subst hq'
  have hrun : (Instr.buildSlice t 0 #[]).run P c.w = .ok (.slice (some ⟨c.w.heap.size, 0, none⟩) 0 0) (c.w.alloc (.cells #[] el)) := by
    simp [Instr.buildSlice, run_underlying hu, sizeOf, typeInfo, h1, h2, Instr.fill, newRow, Array.range_zero']
  rw [hrun]
  cases mu with
  | true =>
    have hx : RepL c.w c.N A [] #[] := ⟨by simp, fun i hi => by simp at hi⟩
    have := row_rep (P := P) hi (Grew.alloc c.w #[] el) true hx (cap := 0) (by simp) (by simp) (Sp.full (by simp)) (v := v) (s' := s') (by simpa [mkRow] using h)
    simpa using this
  | false =>
    simp only [Bool.false_eq_true, if_false, Prod.mk.injEq] at h
    obtain ⟨rfl, rfl⟩ := h
    obtain ⟨k1, k2⟩ := allocF hi (Grew.alloc c.w #[] el)
    exact ⟨_, ⟨c.w.alloc (.cells #[] el), ⟨fun b => c.N b ∨ b = c.w.heap.size, c.N.d⟩, c.r, c.s⟩, rfl, rfl, k1, k2, ⟨_, rfl⟩⟩

theorem move_left (hi : Inv c) {u v : AV} {x : Value} {s' : Store} (mu : Bool) (hr : Rep3 c u x) (h : moveV mu c.s u = (v, s')) : Left P c (.ok x c.w) v s' := by
  unfold moveV at h
  split at h
  · rename_i A
    obtain ⟨base, rfl⟩ := hr
    cases mu with
    | true => exact empty_rep hi true A base (by simpa [mkRow] using h)
    | false =>
      simp only [Bool.false_eq_true, if_false, Prod.mk.injEq] at h
      obtain ⟨rfl, rfl⟩ := h
      exact Left.pure hi ⟨base, rfl⟩
  · simp only [Prod.mk.injEq] at h
    obtain ⟨rfl, rfl⟩ := h
    exact Left.pure hi hr

theorem cap1_rep {v : AV} {x : Value} (h : cap1 v = true) (hr : Rep3 c v x) : Rep1 c v x := by
  cases v with
  | d t v =>
    obtain ⟨cs, h1, h2⟩ := hr
    simp only [cap1, Bool.not_eq_true'] at h
    rw [if_neg (by simp [h])] at h1
    subst h1
    exact ⟨h, h2⟩
  | agg _ => cases h
  | fn _ _ => cases h
  | tup _ => cases h
  | _ => exact hr

theorem caps_rep (he : RepE c e a.tmps) : ∀ (xs : List Operand), (xs.map (opnd T 0 e)).all cap1 = true → All2 (Rep1 c) (xs.map (opnd T 0 e)) (xs.map a.eval)
  | [], _ => trivial
  | x :: xs, h => by
    simp only [List.map_cons, List.all_cons, Bool.and_eq_true] at h
    exact ⟨cap1_rep h.1 (opnd_rep he x), caps_rep he xs h.2⟩

theorem zip_rep (he : RepE c e a.tmps) : ∀ (xs : List Operand) (ts : List TypeId), xs.length = ts.length → All2 (Rep3 c) ((xs.zip ts).map fun p => opnd T p.2 e p.1) (xs.map a.eval)
  | [], _, _ => trivial
  | _ :: _, [], h => by simp at h
  | x :: xs, t :: ts, h => ⟨opnd_rep he x, zip_rep he xs ts (by simpa using h)⟩

theorem builtinV_left (hT : TabOk P T) (hi : Inv c) (mu : Bool) (b : Builtin) {ts : Array TypeId} (ty : TypeId) (cst : Array Bool) {args : List AV} {xs : Array Value} (hr : All2 (Rep3 c) args xs.toList) (hl : xs.size = ts.size)
    {v : AV} {s' : Store} (h : builtinV T mu b ts.toList args c.s = some (v, s')) : ∃ run, (builtin b ts ty cst xs).run P c.w = run.andThen (fun x w => .ok (.value x) w) ∧ Left P c run v s' := by
  unfold builtinV at h
  split at h
  · -- len
    rename_i t r x hts
    obtain ⟨q, rfl⟩ : ∃ q, xs = #[q] := by
      have := hr.length
      simp only [List.length_singleton, Array.length_toList] at this
      rcases xs with ⟨l⟩
      match l, this with
      | [q], _ => exact ⟨q, rfl⟩
    have hq : Rep3 c x q := hr.1
    have ht0 : ts[0]? = some t := by rw [← Array.getElem?_toList, hts]; rfl
    refine ⟨(Builtin.len_ ts ty #[q]).run P c.w, by simp [builtin], ?_⟩
    split at h
    · rename_i bs hty
      simp only [Option.some.injEq, Prod.mk.injEq] at h
      obtain ⟨rfl, rfl⟩ := h
      have hu := (hT t _ hty).str
      obtain rfl := hq.str
      have : (Builtin.len_ ts ty #[.string bs]).run P c.w = .ok (.int .i64 (bs.size : Int)) c.w := by
        simp [Builtin.len_, ht0, run_underlying hu, goInt]
      rw [this]
      exact Left.pure hi (rep_int c _ _)
    · rename_i x _ _ A hty
      obtain ⟨el, hu, _, _⟩ := (hT t _ hty).sl
      cases hn : lenSl c.s x with
      | none => simp [hn] at h
      | some n =>
        simp only [hn, Option.map_some, Option.some.injEq, Prod.mk.injEq] at h
        obtain ⟨rfl, rfl⟩ := h
        have hn' : lenV c.s x = some n ∧ ∀ s, x ≠ .d .str s := by
          unfold lenSl at hn
          split at hn
          · cases hn
          · rename_i hne
            exact ⟨hn, hne⟩
        rcases lenV_rep hi hq hn'.1 with ⟨base, cap, rfl, _⟩ | ⟨s, rfl, _⟩
        · have : (Builtin.len_ ts ty #[.slice base n cap]).run P c.w = .ok (.int .i64 (n : Int)) c.w := by
            simp [Builtin.len_, ht0, run_underlying hu, goInt]
          rw [this]
          exact Left.pure hi (rep_int c _ _)
        · exact absurd rfl (hn'.2 s)
    · cases h
  · -- append
    rename_i t u r x y hts
    obtain ⟨p, q, rfl⟩ : ∃ p q, xs = #[p, q] := by
      have := hr.length
      simp only [List.length_cons, List.length_nil, Array.length_toList] at this
      rcases xs with ⟨l⟩
      match l, this with
      | [p, q], _ => exact ⟨p, q, rfl⟩
    have ht0 : ts[0]? = some t := by rw [← Array.getElem?_toList, hts]; rfl
    have ht1 : ts[1]? = some u := by rw [← Array.getElem?_toList, hts]; rfl
    refine ⟨(Builtin.append_ ts ty #[p, q]).run P c.w, by simp [builtin], ?_⟩
    split at h
    · rename_i A U hA hU
      split at h
      · rename_i b hb
        obtain rfl : A = .sl b := by
          unfold slOf at hb
          split at hb
          · simpa using hb
          · cases hb
        exact appendD_left hi (hT t _ hA) (hT u _ hU) ht0 ht1 rfl rfl hr.1 hr.2.1 h
      cases hys : elems c.s A y with
      | none => simp [hys] at h
      | some ys =>
        simp only [hys, Option.bind_some] at h
        exact appendV_rep hi (hT t _ hA) (hT u _ hU) ht0 ht1 rfl rfl hr.1 hr.2.1 hys h
    · rename_i A k hA hU
      obtain ⟨n, hn, h⟩ := Option.bind_eq_some_iff.mp h
      split at h
      · rename_i hbig
        obtain ⟨k', rfl⟩ := asN_rep hn hr.2.1
        exact appendZ_rep hi (hT t _ hA) (hT u _ hU) ht0 ht1 rfl rfl hr.1 hbig h
      · cases h
    · cases h
  · -- cap
    rename_i t r x hts
    obtain ⟨q, rfl⟩ : ∃ q, xs = #[q] := by
      have := hr.length
      simp only [List.length_singleton, Array.length_toList] at this
      rcases xs with ⟨l⟩
      match l, this with
      | [q], _ => exact ⟨q, rfl⟩
    have hq : Rep3 c x q := hr.1
    have ht0 : ts[0]? = some t := by rw [← Array.getElem?_toList, hts]; rfl
    refine ⟨(Builtin.cap_ ts ty #[q]).run P c.w, by simp [builtin], ?_⟩
    split at h
    · rename_i A hA
      obtain ⟨el, hu, _, _⟩ := (hT t _ hA).sl
      obtain ⟨n, hn, h⟩ := Option.map_eq_some_iff.mp h
      simp only [Prod.mk.injEq] at h
      obtain ⟨rfl, rfl⟩ := h
      have hx : ∃ base len, q = .slice base len n := by
        unfold capV at hn
        split at hn
        · simp only [Option.some.injEq] at hn
          subst hn
          obtain ⟨base, rfl⟩ := hq
          exact ⟨base, 0, rfl⟩
        · rename_i id off len tight
          unfold liveB at hn
          obtain ⟨_, bk, hbk, hr2⟩ := hq
          split at hn
          · rename_i hs
            rw [hs] at hbk
            obtain rfl := Option.some.inj hbk
            obtain ⟨base, cap, rfl, _, _, h3, _⟩ := hr2 trivial
            simp only [cond_true] at hn
            exact ⟨base, len, by rw [h3 n hn]⟩
          · rename_i hs
            rw [hs] at hbk
            obtain rfl := Option.some.inj hbk
            obtain ⟨base, cap, rfl, _, _, h3, _⟩ := hr2 trivial
            simp only [cond_true] at hn
            exact ⟨base, len, by rw [h3 n hn]⟩
          · rename_i hs
            rw [hs] at hbk
            obtain rfl := Option.some.inj hbk
            obtain ⟨base, cap, rfl, _, _, h3, _⟩ := hr2 trivial
            simp only [cond_true] at hn
            exact ⟨base, len, by rw [h3 n hn]⟩
          · cases hn
        · cases hn
      obtain ⟨base, len, rfl⟩ := hx
      have : (Builtin.cap_ ts ty #[.slice base len n]).run P c.w = .ok (.int .i64 (n : Int)) c.w := by
        simp [Builtin.cap_, ht0, run_underlying hu, goInt]
      rw [this]
      exact Left.pure hi (rep_int c _ _)
    · cases h
  · -- clear
    rename_i t r x hts
    obtain ⟨q, rfl⟩ : ∃ q, xs = #[q] := by
      have := hr.length
      simp only [List.length_singleton, Array.length_toList] at this
      rcases xs with ⟨l⟩
      match l, this with
      | [q], _ => exact ⟨q, rfl⟩
    have ht0 : ts[0]? = some t := by rw [← Array.getElem?_toList, hts]; rfl
    refine ⟨(Builtin.clear_ ts ty #[q]).run P c.w, by simp [builtin], ?_⟩
    split at h
    · rename_i A hA
      obtain ⟨n, hn, h⟩ := Option.bind_eq_some_iff.mp h
      obtain ⟨s1, hs1, h⟩ := Option.map_eq_some_iff.mp h
      simp only [Prod.mk.injEq] at h
      obtain ⟨rfl, rfl⟩ := h
      exact clear_rep hi (hT t _ hA) ht0 rfl hr.1 hn hs1
    · cases h
  · -- copy
    rename_i t u r x y hts
    obtain ⟨p, q, rfl⟩ : ∃ p q, xs = #[p, q] := by
      have := hr.length
      simp only [List.length_cons, List.length_nil, Array.length_toList] at this
      rcases xs with ⟨l⟩
      match l, this with
      | [p, q], _ => exact ⟨p, q, rfl⟩
    have ht0 : ts[0]? = some t := by rw [← Array.getElem?_toList, hts]; rfl
    refine ⟨(Builtin.copy_ ts ty #[p, q]).run P c.w, by simp [builtin], ?_⟩
    split at h
    · rename_i A U hA hU
      obtain ⟨n, hn, h⟩ := Option.bind_eq_some_iff.mp h
      obtain ⟨ys, hys, h⟩ := Option.bind_eq_some_iff.mp h
      obtain ⟨s1, hs1, h⟩ := Option.map_eq_some_iff.mp h
      simp only [Prod.mk.injEq] at h
      obtain ⟨rfl, rfl⟩ := h
      exact copy_rep hi (hT t _ hA) (hT u _ hU) ht0 rfl rfl hr.1 hr.2.1 hys hn hs1
    · cases h
  · -- min
    rename_i args _ _ _
    refine ⟨(Builtin.min_ ts ty xs).run P c.w, by simp [builtin], ?_⟩
    obtain ⟨m, hf, hm⟩ := Option.map_eq_some_iff.mp h
    obtain ⟨rfl, rfl⟩ := Prod.mk.inj hm
    unfold Builtin.min_
    match args, xs.toList, hr with
    | x :: r, q :: l, hr =>
      simp only [foldI] at hf
      obtain ⟨⟨k, n⟩, h1, h2⟩ := Option.bind_eq_some_iff.mp hf
      obtain ⟨n', h3, rfl⟩ := Option.map_eq_some_iff.mp h2
      obtain rfl := asI_rep h1 hr.1
      have := foldI_rep (P := P) (c := c) (f := fun a b => if b < a then b else a) (g := Builtin.min2) (k := k) (fun k k' x y w => by simp [Builtin.min2]) hr.2 h3
      simp only [this]
      exact Left.pure hi (rep_int c _ _)
  · -- max
    rename_i args _ _ _
    refine ⟨(Builtin.max_ ts ty xs).run P c.w, by simp [builtin], ?_⟩
    obtain ⟨m, hf, hm⟩ := Option.map_eq_some_iff.mp h
    obtain ⟨rfl, rfl⟩ := Prod.mk.inj hm
    unfold Builtin.max_
    match args, xs.toList, hr with
    | x :: r, q :: l, hr =>
      simp only [foldI] at hf
      obtain ⟨⟨k, n⟩, h1, h2⟩ := Option.bind_eq_some_iff.mp hf
      obtain ⟨n', h3, rfl⟩ := Option.map_eq_some_iff.mp h2
      obtain rfl := asI_rep h1 hr.1
      have := foldI_rep (P := P) (c := c) (f := fun a b => if b > a then b else a) (g := Builtin.max2) (k := k) (fun k k' x y w => by simp [Builtin.max2]) hr.2 h3
      simp only [this]
      exact Left.pure hi (rep_int c _ _)
  · cases h

end
end Go.Ev

/-
  EVERY OPERATION THAT THE EVALUATOR KNOWS, calls of functions left out, in one theorem.
-/
namespace Go.Ev

section
variable {P : Program} {T : Tab} {c : Cx} {a : Act} {e : Env}

theorem Done.store {o : Oper} {c' : Cx} {s' : Store} (hrun : (execOp a.eval o).run P c.w = .ok .skip c'.w) (h1 : c'.s = s') (h2 : Inv c') (h3 : Ext c c') : Done P a o c (.tup []) s' :=
  ⟨.skip, undef, c', hrun, .inr ⟨rfl, rfl⟩, h1, h2, h3, ⟨[], rfl, trivial⟩⟩

theorem pu_left {r : Option AV} {v : AV} {s s' : Store} (h : (r.map fun v => (v, s)) = some (v, s')) : r = some v ∧ s = s' := by
  obtain ⟨x, h1, h2⟩ := Option.map_eq_some_iff.mp h
  obtain ⟨rfl, rfl⟩ := Prod.mk.inj h2
  exact ⟨h1, rfl⟩

theorem opV_done (hT : TabOk P T) (H : Hint) (hi : Inv c) (he : RepE c e a.tmps) {o : Oper} {v : AV} {s' : Store} (h : opV T H o e c.s = some (v, s')) : Done P a o c v s' := by
  obtain ⟨dst, op, type, pos, after, guard⟩ := o
  dsimp only [opV] at h
  generalize muOf H dst = mu at h
  cases op <;> (try dsimp only at h) <;> (try (simp only [reduceCtorEq] at h; done))
  case move x => exact Done.ofLeft (run := .ok (a.eval x) c.w) (by simp [execOp]) (move_left hi mu (opnd_rep he x) (Option.some.inj h))
  case assign x => exact Done.ofLeft (run := .ok (a.eval x) c.w) (by simp [execOp]) (move_left hi mu (opnd_rep he x) (Option.some.inj h))
  case pick k x y =>
    obtain ⟨t, h1, h2⟩ := Option.bind_eq_some_iff.mp h
    have hk := asB_rep h1 (opnd_rep he k)
    cases t with
    | true =>
      simp only [cond_true, Option.some.injEq, Prod.mk.injEq] at h2
      obtain ⟨rfl, rfl⟩ := h2
      exact Done.pure hi (x := a.eval x) (by simp [execOp, hk, asBool]) (opnd_rep he x)
    | false =>
      simp only [cond_false, Option.some.injEq, Prod.mk.injEq] at h2
      obtain ⟨rfl, rfl⟩ := h2
      exact Done.pure hi (x := a.eval y) (by simp [execOp, hk, asBool]) (opnd_rep he y)
  case alloc t =>
    obtain ⟨A, h1, h2⟩ := Option.bind_eq_some_iff.mp h
    exact Done.ofLeft (run := (Instr.alloc t true (.tuple #[])).run P c.w) (by simp [execOp]) (alloc_left hi (hT t _ h1) mu h2)
  case box t x =>
    obtain ⟨A, h1, h2⟩ := Option.bind_eq_some_iff.mp h
    split at h2
    · rename_i hl
      exact Done.ofLeft (run := (Instr.box t (a.eval x)).run P c.w) (by simp [execOp]) (box_left hi (hT t _ h1) mu (opnd_rep he x) hl h2)
    · cases h2
  case build t ps =>
    obtain ⟨A, h1, h2⟩ := Option.bind_eq_some_iff.mp h
    obtain ⟨cs, h3, h4⟩ := Option.bind_eq_some_iff.mp h2
    obtain ⟨h5, rfl⟩ := pu_left h4
    split at h5
    · rename_i hA
      obtain ⟨z, h6, h7⟩ := build_rep (c := c) (hT t _ h1) hA (qs := ps.map fun p => (p.1, a.eval p.2)) (by simpa using parts_rep he 0 ps.toList) h3 h5
      exact Done.pure hi (x := z) (by simp only [execOp, Sem.run_bind, h6, Result.andThen_ok, Sem.run_pure]) h7
    · cases h5
  case buildSlice t n ps =>
    split at h
    · rename_i A hA
      split at h
      · rename_i hn
        subst hn
        split at h
        · rename_i hp
          exact Done.ofLeft (run := (Instr.buildSlice t 0 (ps.map fun p => (p.1, a.eval p.2))).run P c.w) (by simp [execOp]) (buildS0_left hi (hT t _ hA) mu (by simp; exact Array.eq_empty_of_size_eq_zero hp) (Option.some.inj h))
        · cases h
      · split at h
        · split at h
          · rename_i b x hb hp
            obtain ⟨_, rfl⟩ := slOf_some hb
            split at h
            · rename_i hn
              subst hn
              have hl := parts_rep (T := T) he 0 ps.toList
              rw [hp] at hl
              obtain ⟨y, hq, hy⟩ : ∃ y, (ps.map fun p => (p.1, a.eval p.2)) = #[(0, y)] ∧ Rep3 c x y := by
                generalize hps : (ps.toList.map fun p => (p.1, a.eval p.2)) = qs at hl
                match qs, hl, hps with
                | [], hl, _ => exact hl.elim
                | [(j, y)], hl, hps =>
                  obtain ⟨⟨e1, e2⟩, _⟩ := hl
                  refine ⟨y, ?_, e2⟩
                  apply Array.ext'
                  simp only at e1
                  simp only [Array.toList_map, hps, ← e1]
                | _ :: _ :: _, hl, _ => exact hl.2.elim
              exact Done.ofLeft (run := (Instr.buildSlice t 1 (ps.map fun p => (p.1, a.eval p.2))).run P c.w) (by simp [execOp]) (by rw [hq]; exact buildD_left hi (hT t _ hA) hy h)
            · cases h
          · cases h
        split at h
        · rename_i hn
          obtain ⟨ys, h1, h2⟩ := Option.map_eq_some_iff.mp h
          exact Done.ofLeft (run := (Instr.buildSlice t n (ps.map fun p => (p.1, a.eval p.2))).run P c.w) (by simp [execOp]) (buildS_left hi (hT t _ hA) mu hn (by simpa using parts_rep he 0 ps.toList) h1 h2)
        · cases h
    · cases h
  case load t x =>
    obtain ⟨A, h1, h2⟩ := Option.bind_eq_some_iff.mp h
    split at h2
    · obtain ⟨y, c', h6, h7, h8, h9, h10, h11⟩ := takeV_left hi (hT t _ h1) (opnd_rep he x) h2
      exact Done.ofLeft (run := (Instr.loadAt t (a.eval x)).run P c.w) (by simp [execOp]) ⟨y, c', by rw [h6, h7], h8, h9, h10, h11⟩
    obtain ⟨h5, rfl⟩ := pu_left h2
    obtain ⟨y, h6, h7⟩ := loadV_rep hi (hT t _ h1) (opnd_rep he x) h5
    exact Done.pure hi (x := y) (by simp only [execOp, Sem.run_bind, h6, Result.andThen_ok, Sem.run_pure]) h7
  case store t x y =>
    obtain ⟨A, h1, h2⟩ := Option.bind_eq_some_iff.mp h
    obtain ⟨s1, h3, h4⟩ := Option.map_eq_some_iff.mp h2
    obtain ⟨rfl, rfl⟩ := Prod.mk.inj h4
    obtain ⟨c', h5, h6, h7, h8⟩ := storeW_rep hi (hT t _ h1) (opnd_rep he x) (opnd_rep he y) h3
    exact Done.store (by simp only [execOp, Sem.run_bind, h5, Result.andThen_ok, Sem.run_pure]) h6 h7 h8
  case nilCheck x =>
    obtain ⟨h5, rfl⟩ := pu_left h
    obtain ⟨b, off, h6, h7⟩ := partPtr_rep (opnd_rep he x) h5
    exact Done.pure hi (x := .pointer (some ⟨b, off, none⟩)) (by simp [execOp, h6]) (by simpa using h7)
  case binOp op t x y _ =>
    obtain ⟨h5, rfl⟩ := pu_left h
    obtain ⟨z, h6, h7, h8⟩ := binOpV_rep (P := P) hT op t (ox := x) (oy := y) h5 (opnd_rep he x) (opnd_rep he y)
    exact Done.pure hi (x := z) (by simp only [execOp, Sem.run_bind, h6, h7, Result.andThen_ok, Sem.run_pure]) h8
  case unOp op t x =>
    split at h
    · rename_i b hb
      obtain ⟨rfl, rfl⟩ := Prod.mk.inj (Option.some.inj h)
      have hx := opnd_rep (T := T) (t := 0) he x
      rw [hb] at hx
      exact Done.pure hi (x := .bool !b) (by simp [execOp, hx.bool, Op.unary]) (rep_bool c _)
    · rename_i k n hb
      obtain ⟨rfl, rfl⟩ := Prod.mk.inj (Option.some.inj h)
      have hx := opnd_rep (T := T) (t := 0) he x
      rw [hb] at hx
      exact Done.pure hi (x := .int k (k.wrap (0 - n))) (by simp [execOp, hx.int, Op.unary, Op.intArith]) (rep_int c _ _)
    · cases h
  case convert t u x =>
    obtain ⟨g, rfl⟩ := pu_some h
    clear h
    obtain ⟨α, hα, g⟩ := Option.bind_eq_some_iff.mp g
    obtain ⟨β, hβ, h⟩ := Option.bind_eq_some_iff.mp g
    have hx := opnd_rep (T := T) (t := t) he x
    generalize opnd T t e x = y at h hx
    unfold convV at h
    split at h
    · rename_i k' k k1 n
      obtain rfl := Option.some.inj h
      exact Done.pure hi (x := .int k (k.wrap n)) (by simp [execOp, hx.int, convert, run_underlying (hT t _ hα).int, run_underlying (hT u _ hβ).int, Conv.intToInt]) (rep_int c _ _)
    · rename_i a b xs
      split at h
      · rename_i ha
        subst ha
        obtain ⟨ys, hc, hv⟩ := Option.map_eq_some_iff.mp h
        obtain ⟨eq, hzs⟩ := castD_some hc
        obtain rfl : b = .int .u8 := by simpa using eq
        simp only at hzs
        subst hzs
        subst hv
        obtain ⟨el, hu, hel, _⟩ := (hT t _ hα).sl
        obtain ⟨base, cap, news, hq, hcap, hsrc, hcell⟩ := elems_src (a := .int .u8) hi (by decide) hx (show elems c.s (.int .u8) (.d (.sl (.int .u8)) ys) = some ys by simp [elems, castD])
        have hnews : news = ys.map (Value.int .u8) := by
          have hl : news.length = ys.length := by simpa [Ty.size] using hcell.1
          apply List.ext_getElem (by simpa using hl)
          intro i h1 h2
          have := hcell.2 i (by omega)
          simp only [RepC, Ty.size, Nat.mul_one] at this
          have h3 := congrArg (·[0]?) this
          simp only [List.getElem?_take, List.getElem?_drop] at h3
          rw [if_pos (by omega), Nat.add_zero, List.getElem?_eq_getElem h1] at h3
          simpa using h3
        have hrun : (convert t u (.slice base ys.length cap)).run P c.w = .ok (.string (bytesV ys)) c.w := by
          rw [run_convert_bytes_string c.w t u el base ys.length cap hu hel.int (hT u _ hβ).str]
          have hr := hsrc.run (P := P) ys.length cap
          cases base with
          | none =>
            have hx0 : ys = [] := by
              by_cases h0 : 0 < news.length
              · obtain ⟨_, _, _, _, _, hn, _⟩ := hsrc.2 h0; cases hn
              · rw [hnews] at h0
                exact List.eq_nil_of_length_eq_zero (by simpa using h0)
            subst hx0
            rfl
          | some ad =>
            refine run_bytesToString c.w ad ys.length cap ys ?_
            rw [← hnews]
            simpa [Builtin.firstCells, Ty.size] using hr
        exact Done.pure hi (x := .string (bytesV ys)) (by simp [execOp, hq, hrun]) (rep_str c _)
      · cases h
    · cases h
  case makeFunc fn first cap =>
    cases fn with
    | func f =>
      simp only at h
      split at h
      · rename_i h0
        obtain ⟨rfl, rfl⟩ := Prod.mk.inj (Option.some.inj h)
        obtain rfl := Array.eq_empty_of_size_eq_zero h0.1
        exact Done.pure hi (x := .func (.func f) #[] (cap.map a.eval)) (by simp [execOp, Instr.makeFunc]) ⟨cap.toList.map a.eval, by rw [← Array.toList_map], caps_rep he cap.toList h0.2⟩
      · cases h
    | _ => cases h
  case makeSlice t l k =>
    split at h
    · rename_i A hA
      split at h
      · rename_i hs
        obtain ⟨n, h1, h2⟩ := Option.bind_eq_some_iff.mp h
        split at h2
        · rename_i hn
          obtain ⟨kl, hl⟩ := asN_rep h1 (opnd_rep he l)
          obtain ⟨kj, hk⟩ := sameOpnd_eval hs hl rfl
          exact Done.ofLeft (run := (Instr.makeSlice t (a.eval l) (a.eval k)).run P c.w) (by simp [execOp]) (by rw [hl, hk]; exact makeW_left hi (hT t _ hA) mu hn (Option.some.inj h2))
        · cases h2
      · cases h
    · cases h
  case slice t x lo hi' mx =>
    obtain ⟨A, h1, h2⟩ := Option.bind_eq_some_iff.mp h
    obtain ⟨h5, rfl⟩ := pu_left h2
    have ob : ∀ (o : Option Operand) (v : AV), o.map (opnd T 0 e) = some v → ∃ y, o.map a.eval = some y ∧ Rep3 c v y := by
      intro o v hv
      cases o with
      | none => cases hv
      | some p => simp only [Option.map_some, Option.some.injEq] at hv; subst hv; exact ⟨_, rfl, opnd_rep he p⟩
    have on : ∀ (o : Option Operand), o.map (opnd T 0 e) = none → o.map a.eval = none := by
      intro o hv
      cases o with
      | none => rfl
      | some p => cases hv
    obtain ⟨y, h6, h7⟩ := cutV_rep (P := P) hi (hT t _ h1) (opnd_rep he x) (ob lo) (on lo) (ob hi') (on hi') (ob mx) (on mx) h5
    exact Done.pure hi (x := y) (by simp only [execOp, Sem.run_bind, h6, Result.andThen_ok, Sem.run_pure]) h7
  case fieldAddr t x n =>
    obtain ⟨A, h1, h2⟩ := Option.bind_eq_some_iff.mp h
    obtain ⟨f, h3, h4⟩ := Option.bind_eq_some_iff.mp h2
    obtain ⟨h5, rfl⟩ := pu_left h4
    obtain ⟨z, h6, h7⟩ := fieldAddr_rep (P := P) (hT t _ h1) (o := f.1) (b := f.2) h3 (opnd_rep he x) h5
    exact Done.pure hi (x := z) (by simp only [execOp, Sem.run_bind, h6, Result.andThen_ok, Sem.run_pure]) h7
  case field t x n =>
    obtain ⟨A, h1, h2⟩ := Option.bind_eq_some_iff.mp h
    obtain ⟨f, h3, h4⟩ := Option.bind_eq_some_iff.mp h2
    split at h4
    · rename_i hc
      simp only [Bool.and_eq_true, decide_eq_true_eq] at hc
      obtain ⟨h5, rfl⟩ := pu_left h4
      obtain ⟨z, h6, h7⟩ := field_rep (P := P) (hT t _ h1) (o := f.1) (b := f.2) h3 (opnd_rep he x) hc.2 h5 (aggOk_rep hc.1 (opnd_rep he x))
      exact Done.pure hi (x := z) (by simp only [execOp, Sem.run_bind, h6, Result.andThen_ok, Sem.run_pure]) h7
    · cases h4
  case indexAddr t x i =>
    split at h
    · rename_i A hA
      obtain ⟨n, h1, h2⟩ := Option.bind_eq_some_iff.mp h
      split at h2
      · rename_i hok
        obtain ⟨h5, rfl⟩ := pu_left h2
        obtain ⟨k, hk⟩ := asN_rep h1 (opnd_rep he i)
        obtain ⟨z, h6, h7⟩ := elemPtr_rep (P := P) hi (hT t _ hA) (opnd_rep he x) hk hok h5
        exact Done.pure hi (x := z) (by simp only [execOp, Sem.run_bind, h6, Result.andThen_ok, Sem.run_pure]) h7
      · cases h2
    · cases h
  case index t x i =>
    split at h
    · rename_i b hA hx
      obtain ⟨n, h1, h2⟩ := Option.bind_eq_some_iff.mp h
      obtain ⟨k, h3, h4⟩ := Option.map_eq_some_iff.mp h2
      obtain ⟨rfl, rfl⟩ := Prod.mk.inj h4
      obtain ⟨kk, hk⟩ := asN_rep h1 (opnd_rep he i)
      have hs := opnd_rep (T := T) (t := t) he x
      rw [hx] at hs
      have hs := hs.str
      exact Done.pure hi (x := .int .u8 (k.toNat : Int)) (by simp [execOp, hk, hs, Instr.index, asIntOf, run_underlying (hT t _ hA).str, h3]) (rep_int c _ _)
    · cases h
  case extract x i =>
    split at h
    · rename_i vs hx
      obtain ⟨v1, h1, h2⟩ := Option.map_eq_some_iff.mp h
      obtain ⟨rfl, rfl⟩ := Prod.mk.inj h2
      have hs := opnd_rep (T := T) (t := 0) he x
      rw [hx] at hs
      obtain ⟨xs, hxs, hall⟩ := hs
      obtain ⟨y, h3, h4⟩ := hall.get i v1 h1
      exact Done.pure hi (x := y) (by simp [execOp, hxs, Instr.extract, h3]) (Rep3_of2 h4)
    · cases h
  case call cl =>
    split at h
    · rename_i b hb
      obtain ⟨callee, args, ats⟩ := cl
      simp only at hb h
      subst hb
      split at h
      · rename_i hsz
        obtain ⟨run, h1, h2⟩ := builtinV_left (P := P) hT hi mu b type (args.map fun | .const _ => true | _ => false) (ts := ats) (xs := args.map a.eval) (by simpa using zip_rep he args.toList ats.toList (by simpa using hsz)) (by simpa using hsz) h
        exact Done.ofLeft (run := run) (h1) h2
      · cases h
    · cases h

end
end Go.Ev

/-
  OTHER NUMBERS FOR THE SAME BLOCKS; values that hold no slice.
-/
namespace Go.Ev

/-- block i of c is block m i of c2 -/
structure Ren (c c2 : Cx) (m : Nat → Option Nat) : Prop where
  w : c2.w = c.w
  N : ∀ b, c.N b → c2.N b
  ids : ∀ (i j : Nat) (bk : Blk), m i = some j → c.s[i]? = some bk → ∃ bk', c2.s[j]? = some bk' ∧ (bk'.live → c2.r[j]? = c.r[i]? ∧ bk.live ∧ bk'.len = bk.len ∧ bk'.sz = bk.sz)

section
variable {c c2 : Cx} {m : Nat → Option Nat}

theorem Ren.at (h : Ren c c2 m) {i j b : Nat} {cs : Array Value} (hr : c2.r[j]? = c.r[i]?) (ha : c.at i b cs) : c2.at j b cs :=
  ⟨hr.trans ha.1, by rw [h.w]; exact ha.2⟩

theorem Ren.mono (h : Ren c c2 m) : ∀ b, c.N b → c2.N b ∧ c2.w.heap[b]? = c.w.heap[b]? := fun b hb => ⟨h.N b hb, by rw [h.w]⟩

theorem Rep1.ren (h : Ren c c2 m) {v : AV} {x : Value} (hr : Rep1 c v x) : Rep1 c2 (ren1 m v) x := by
  cases v with
  | any => trivial
  | d t v => exact ⟨hr.1, hr.2.mono h.mono⟩
  | e0 t => exact hr
  | agg cs => exact hr.elim
  | tup vs => exact hr.elim
  | fn f cap => exact hr.elim
  | all id =>
    obtain ⟨h0, bk, hb, hr⟩ := hr
    simp only [ren1]
    cases hm : m id with
    | none => trivial
    | some j =>
      obtain ⟨bk', hb', hk⟩ := h.ids id j bk hm hb
      refine ⟨h0, bk', hb', fun hl => ?_⟩
      obtain ⟨k4, k1, k2, k3⟩ := hk hl
      obtain ⟨base, cap, h1, h2, h3⟩ := hr k1
      rw [k2, k3]
      refine ⟨base, cap, h1, h2, fun hc => ?_⟩
      obtain ⟨b, cs, h4, h5, h6⟩ := h3 hc
      exact ⟨b, cs, h.at k4 h4, h5, h6⟩
  | ref id off len tight =>
    obtain ⟨h0, bk, hb, hr⟩ := hr
    simp only [ren1]
    cases hm : m id with
    | none => trivial
    | some j =>
      obtain ⟨bk', hb', hk⟩ := h.ids id j bk hm hb
      refine ⟨h0, bk', hb', fun hl => ?_⟩
      obtain ⟨k4, k1, k2, k3⟩ := hk hl
      obtain ⟨base, cap, h1, h2, h3, h4, h5, h6⟩ := hr k1
      rw [k2, k3]
      refine ⟨base, cap, h1, h2, h3, h4, h5, fun hc => ?_⟩
      obtain ⟨b, cs, h7, h8, h9⟩ := h6 hc
      exact ⟨b, cs, h.at k4 h7, h8, h9⟩
  | ptr id i f =>
    obtain ⟨h0, bk, hb, hr⟩ := hr
    simp only [ren1]
    cases hm : m id with
    | none => trivial
    | some j =>
      obtain ⟨bk', hb', hk⟩ := h.ids id j bk hm hb
      refine ⟨h0, bk', hb', fun hl => ?_⟩
      obtain ⟨k4, k1, k2, k3⟩ := hk hl
      obtain ⟨b, cs, h1, h2, h3⟩ := hr k1
      rw [k2, k3]
      exact ⟨b, cs, h.at k4 h1, h2, h3⟩
  | cptr t v f =>
    obtain ⟨b, o, cs, ty, fr, h1, h2, h3, h4, h5⟩ := hr
    exact ⟨b, o, cs, ty, fr, h1, h.N b h2, by rw [h.w]; exact h3, h4, h5.mono h.mono⟩

theorem All2.map_l {α β γ : Type} {R : α → β → Prop} {S : γ → β → Prop} {f : α → γ} (hm : ∀ a b, R a b → S (f a) b) : ∀ {as : List α} {bs : List β}, All2 R as bs → All2 S (as.map f) bs
  | [], [], _ => trivial
  | _ :: _, _ :: _, h => ⟨hm _ _ h.1, All2.map_l hm h.2⟩
  | [], _ :: _, h => h.elim
  | _ :: _, [], h => h.elim

theorem Rep2.ren (h : Ren c c2 m) {v : AV} {x : Value} (hr : Rep2 c v x) : Rep2 c2 (ren2 m v) x := by
  cases v with
  | d t v => obtain ⟨cs, h1, h2⟩ := hr; exact ⟨cs, h1, h2.mono h.mono⟩
  | agg cs => obtain ⟨vs, h1, h2⟩ := hr; exact ⟨vs, h1, All2.map_l (f := ren1 m) (fun _ _ => Rep1.ren h) h2⟩
  | fn f cap => obtain ⟨vs, h1, h2⟩ := hr; exact ⟨vs, h1, All2.map_l (f := ren1 m) (fun _ _ => Rep1.ren h) h2⟩
  | tup vs => exact hr.elim
  | any => trivial
  | _ => exact Rep2_of1 (Rep1.ren h (Rep1_of2 hr (by simp) (by simp) (by simp) (by simp)))

theorem Rep3.ren (h : Ren c c2 m) {v : AV} {x : Value} (hr : Rep3 c v x) : Rep3 c2 (ren3 m v) x := by
  cases v with
  | tup vs => obtain ⟨xs, h1, h2⟩ := hr; exact ⟨xs, h1, All2.map_l (f := ren2 m) (fun _ _ => Rep2.ren h) h2⟩
  | _ => exact Rep3_of2 (Rep2.ren h (Rep2_of3 hr (by simp)))

theorem renB_len (bk : Blk) : (renB m bk).len = bk.len ∧ (renB m bk).sz = bk.sz ∧ ((renB m bk).live ↔ bk.live) := by
  cases bk <;> simp [renB, Blk.len, Blk.sz, Blk.live]

theorem flat_ren : ∀ (t : Ty) (v : t.D), (flat t v).map (ren1 m) = flat t v := by
  intro t
  induction t with
  | cons h t ih1 ih2 => intro v; simp [flat, ih1, ih2]
  | _ => intro v; simp [flat, ren1]

/-- the cells of a renumbered element -/
theorem renE_cells (v : AV) : (renE m v).cells = v.cells.map (ren1 m) := by
  cases v with
  | d t v => simp only [renE, ren2, ren1, AV.cells, flat_ren]
  | agg cs => simp [renE, ren2, AV.cells]
  | fn f cap => simp [renE, ren2, AV.cells]
  | tup vs => simp [renE, ren2, ren1, AV.cells]
  | any => simp [renE, ren2, ren1, AV.cells]
  | e0 t => simp [renE, ren2, ren1, AV.cells]
  | all id => cases h : m id <;> simp [renE, ren2, ren1, AV.cells, h]
  | ref id o l t => cases h : m id <;> simp [renE, ren2, ren1, AV.cells, h]
  | ptr id o l => cases h : m id <;> simp [renE, ren2, ren1, AV.cells, h]
  | cptr t v f => simp [renE, ren2, ren1, AV.cells]

theorem RowIn.ren (h : Ren c c2 m) {i j p : Nat} {t : Ty} {xs : List t.D} {x : Value} (hd : ∀ b, c.N.d i p b → c2.N.d j p b) (hr : RowIn c i p t xs x) : RowIn c2 j p t xs x := by
  obtain ⟨base, cap, h1, h2, h3⟩ := hr
  refine ⟨base, cap, h1, h2, fun hc => ?_⟩
  obtain ⟨b, cs, ty, k1, k2, k3, k4, k5, k6⟩ := h3 hc
  exact ⟨b, cs, ty, k1, hd b k2, by rw [h.w]; exact k3, k4, fun q hq => (k5 q hq).mono h.mono, k6.mono h.mono⟩

theorem RepB.ren (h : Ren c c2 m) {i j : Nat} (hr : c2.r[j]? = c.r[i]?) {bk : Blk} (hd : (∃ t xs l, bk = .deep t xs l) → ∀ p b, c.N.d i p b → c2.N.d j p b) (hb : RepB c i bk) : RepB c2 j (renB m bk) := by
  cases bk with
  | dead => trivial
  | data t xs =>
    refine ⟨?_, fun b cs h1 => ?_⟩
    · rcases hb.1 with hb | ⟨b, cs, h1, h3, h4⟩
      · exact .inl hb
      · exact .inr ⟨b, cs, h.at hr h1, h3, fun i hi' => (h4 i hi').mono h.mono⟩
    · exact (hb.2 b cs ⟨hr.symm.trans h1.1, by rw [← h.w]; exact h1.2⟩).mono h.mono
  | node sz xs =>
    rcases hb with hb | ⟨b, cs, h1, h3, h4⟩
    · exact .inl (by simp [hb])
    · refine .inr ⟨b, cs, h.at hr h1, by simpa using h3, fun k hk => ?_⟩
      simp only [List.length_map] at hk
      rw [List.getElem_map, renE_cells]
      exact All2.map_l (f := ren1 m) (fun _ _ => Rep1.ren h) (h4 k hk)
  | deep t xs link =>
    replace hd := hd ⟨t, xs, link, rfl⟩
    rcases hb with hb | ⟨b, cs, h1, h3, h4⟩
    · exact .inl hb
    · refine .inr ⟨b, cs, h.at hr h1, h3, fun k hk => ?_⟩
      obtain ⟨x, k1, k2⟩ := h4 k hk
      refine ⟨x, k1, ?_⟩
      cases link with
      | none => exact k2.ren h (hd k)
      | some q =>
        obtain ⟨p, l⟩ := q
        unfold DeepCell at k2 ⊢
        simp only [Option.map_some] at k2 ⊢
        split
        · rename_i e
          rw [if_pos e] at k2
          cases l with
          | none => trivial
          | some l =>
            have := Rep1.ren h k2
            simp only [ren1] at this
            cases hm : m l with
            | none => simp only [Option.bind_some, hm]
            | some l' => rw [hm] at this; simp only [Option.bind_some, hm]; exact this
        · rename_i e
          rw [if_neg e] at k2
          exact k2.ren h (hd k)

/-! ### values that hold no slice -/

theorem RepC.tyNoL {w w' : World} {N N' : Nat → Prop} : ∀ {t : Ty} {v : t.D} {cs : List Value}, t.noL = true → RepC w N t v cs → RepC w' N' t v cs
  | .bool, _, _, _, h => h
  | .int _, _, _, _, h => h
  | .str, _, _, _, h => h
  | .nil, _, _, _, h => h
  | .cons h t, v, cs, hn, hr => by
    simp only [Ty.noL, Bool.and_eq_true] at hn
    exact ⟨RepC.tyNoL hn.1 hr.1, RepC.tyNoL hn.2 hr.2⟩
  | .sl _, _, _, hn, _ => by simp [Ty.noL] at hn

variable (M : Fz)

theorem Rep1.strip {v : AV} {x : Value} (hn : noL1 v = true) (hr : Rep1 c v x) : Rep1 ⟨c.w, M, c.r, c.s⟩ v x := by
  cases v with
  | d t v =>
    simp only [noL1, Bool.or_eq_true] at hn
    rcases hn with hn | hn
    · exact ⟨hr.1, hr.2.tyNoL hn⟩
    · exact ⟨hr.1, RepC.noL hn hr.2⟩
  | agg cs => exact hr.elim
  | tup vs => exact hr.elim
  | fn f cap => exact hr.elim
  | cptr t v f => cases hn
  | any => trivial
  | _ => exact hr

theorem All2.strip {R S : AV → Value → Prop} {p : AV → Bool} (hm : ∀ a b, p a = true → R a b → S a b) : ∀ {as : List AV} {bs : List Value}, as.all p = true → All2 R as bs → All2 S as bs
  | [], [], _, _ => trivial
  | _ :: _, _ :: _, ha, h => by
    simp only [List.all_cons, Bool.and_eq_true] at ha
    exact ⟨hm _ _ ha.1 h.1, All2.strip hm ha.2 h.2⟩
  | [], _ :: _, _, h => h.elim
  | _ :: _, [], _, h => h.elim

theorem Rep2.strip {v : AV} {x : Value} (hn : noL2 v = true) (hr : Rep2 c v x) : Rep2 ⟨c.w, M, c.r, c.s⟩ v x := by
  cases v with
  | d t v =>
    obtain ⟨cs, h1, h2⟩ := hr
    simp only [noL2, noL1, Bool.or_eq_true] at hn
    rcases hn with hn | hn
    · exact ⟨cs, h1, h2.tyNoL hn⟩
    · exact ⟨cs, h1, RepC.noL hn h2⟩
  | agg cs => obtain ⟨vs, h1, h2⟩ := hr; exact ⟨vs, h1, h2.strip (p := noL1) (fun _ _ => Rep1.strip M) hn⟩
  | fn f cap => cases hn
  | tup vs => exact hr.elim
  | _ => exact Rep2_of1 (Rep1.strip M hn (Rep1_of2 hr (by simp) (by simp) (by simp) (by simp)))

theorem Rep3.strip {v : AV} {x : Value} (hn : noL3 v = true) (hr : Rep3 c v x) : Rep3 ⟨c.w, M, c.r, c.s⟩ v x := by
  cases v with
  | tup vs => obtain ⟨xs, h1, h2⟩ := hr; exact ⟨xs, h1, h2.strip (p := noL2) (fun _ _ => Rep2.strip M) hn⟩
  | _ => exact Rep3_of2 (Rep2.strip M hn (Rep2_of3 hr (by simp)))

theorem cells_noL {v : AV} (h : noL2 v = true) : v.cells.all noL1 = true := by
  cases v with
  | d t v =>
    simp only [AV.cells]
    simp only [noL2, noL1, Bool.or_eq_true] at h
    have : ∀ (t : Ty) (v : t.D), t.noL = true ∨ dNoL t v = true → (flat t v).all noL1 = true := by
      intro t
      induction t with
      | cons h t ih1 ih2 =>
        intro v hv
        simp only [flat, List.all_append, Bool.and_eq_true]
        simp only [Ty.noL, dNoL, Bool.and_eq_true] at hv
        exact ⟨ih1 v.1 (hv.imp (·.1) (·.1)), ih2 v.2 (hv.imp (·.2) (·.2))⟩
      | _ => intro v hv; first | (simp [flat, noL1]; done) | simpa [flat, noL1] using hv
    exact this t v h
  | agg cs => simpa [AV.cells, noL2] using h
  | fn f cap => simp [AV.cells]
  | tup vs => simp [AV.cells]
  | _ => first | (simp [AV.cells, noL2]; done) | simpa [AV.cells, noL2] using h

theorem RepB.strip (hM : ∀ id p b, c.N.d id p b → M.d id p b) {i : Nat} {bk : Blk} (hn : blkNoL bk = true) (hb : RepB c i bk) : RepB ⟨c.w, M, c.r, c.s⟩ i bk := by
  cases bk with
  | dead => trivial
  | data t xs =>
    refine ⟨?_, fun b cs h1 i h2 h3 => ?_⟩
    · rcases hb.1 with hb | ⟨b, cs, h1, h3, h4⟩
      · exact .inl hb
      · exact .inr ⟨b, cs, h1, h3, fun i hi' => (h4 i hi').tyNoL hn⟩
    · obtain ⟨v, hv⟩ := hb.2 b cs h1 i h2 h3
      exact ⟨v, hv.tyNoL hn⟩
  | node sz xs =>
    rcases hb with hb | ⟨b, cs, h1, h3, h4⟩
    · exact .inl hb
    · refine .inr ⟨b, cs, h1, h3, fun k hk => ?_⟩
      simp only [blkNoL, List.all_eq_true] at hn
      exact (h4 k hk).strip (p := noL1) (fun _ _ => Rep1.strip M) (cells_noL (hn _ (List.getElem_mem hk)))
  | deep t xs link =>
    rcases hb with hb | ⟨b, cs, h1, h3, h4⟩
    · exact .inl hb
    · refine .inr ⟨b, cs, h1, h3, fun k hk => ?_⟩
      obtain ⟨x, k1, k2⟩ := h4 k hk
      refine ⟨x, k1, ?_⟩
      have hrow : ∀ y, RowIn c i k t xs[k] y → RowIn ⟨c.w, M, c.r, c.s⟩ i k t xs[k] y := fun y hy => by
        obtain ⟨base, cap, q1, q2, q3⟩ := hy
        refine ⟨base, cap, q1, q2, fun hc => ?_⟩
        obtain ⟨b2, cs2, ty, m1, m2, m3, m4, m5, m6⟩ := q3 hc
        refine ⟨b2, cs2, ty, m1, hM i k b2 m2, m3, m4, fun j hj => (m5 j hj).tyNoL hn, fun j l1 l2 => ?_⟩
        obtain ⟨v, hv⟩ := m6 j l1 l2
        exact ⟨v, hv.tyNoL hn⟩
      unfold DeepCell at k2 ⊢
      split
      · simp only at k2
        split
        · rename_i e
          rw [if_pos e] at k2
          split
          · exact Rep1.strip M rfl k2
          · trivial
        · rename_i e
          rw [if_neg e] at k2
          exact hrow x k2
      · exact hrow x k2

end
end Go.Ev

/-
  WHAT A CALL IS HANDED, as plain data; blocks under other numbers.
-/
namespace Go.Ev

/-! ### positions in a list of numbers -/

theorem posOf_some : ∀ {l : List Nat} {i j : Nat}, posOf l i = some j → l[j]? = some i
  | [], _, _, h => by simp [posOf] at h
  | x :: r, i, j, h => by
    simp only [posOf] at h
    split at h
    · rename_i e
      simp only [Option.some.injEq] at h
      subst h; simp [e]
    · obtain ⟨k, h1, h2⟩ := Option.map_eq_some_iff.mp h
      subst h2
      simpa using posOf_some h1

theorem posOf_none : ∀ {l : List Nat} {i : Nat}, posOf l i = none → i ∉ l
  | [], _, _ => by simp
  | x :: r, i, h => by
    simp only [posOf] at h
    split at h
    · cases h
    · rename_i e
      have := posOf_none (Option.map_eq_none_iff.mp h)
      simp only [List.mem_cons, not_or]
      exact ⟨fun e' => e e'.symm, this⟩

theorem posOf_of {l : List Nat} (hn : l.Nodup) {i j : Nat} (h : l[j]? = some i) : posOf l i = some j := by
  cases hp : posOf l i with
  | none => exact absurd (List.mem_of_getElem? h) (posOf_none hp)
  | some k =>
    have h1 := posOf_some hp
    obtain ⟨hk, hk'⟩ := List.getElem?_eq_some_iff.mp h1
    obtain ⟨hj, hj'⟩ := List.getElem?_eq_some_iff.mp h
    have hp := List.pairwise_iff_getElem.mp hn
    rcases Nat.lt_trichotomy k j with h' | h' | h'
    · exact absurd (hk'.trans hj'.symm) (hp k j hk hj h')
    · rw [h']
    · exact absurd (hj'.trans hk'.symm) (hp j k hj hk h')

theorem addNew_nodup : ∀ {xs acc : List Nat}, acc.Nodup → (addNew acc xs).Nodup
  | [], _, h => h
  | x :: xs, acc, h => by
    simp only [addNew]
    split
    · exact addNew_nodup h
    · rename_i hx
      refine addNew_nodup ?_
      rw [List.nodup_append]
      refine ⟨h, by simp, fun a ha b hb e => ?_⟩
      simp only [List.mem_singleton] at hb
      subst e; subst hb
      exact hx (by simpa using ha)

theorem addNew_prefix : ∀ {xs acc : List Nat} {i : Nat}, i < acc.length → (addNew acc xs)[i]? = acc[i]? ∧ acc.length ≤ (addNew acc xs).length
  | [], _, _, _ => ⟨rfl, Nat.le_refl _⟩
  | x :: xs, acc, i, h => by
    simp only [addNew]
    split
    · exact addNew_prefix h
    · have := addNew_prefix (xs := xs) (acc := acc ++ [x]) (i := i) (by simp; omega)
      refine ⟨this.1.trans (List.getElem?_append_left h), ?_⟩
      have h2 := this.2
      simp at h2; omega

theorem wb_length {α : Type} : ∀ {is : List Nat} {s bs : List α}, (writeBack s is bs).length = s.length
  | [], _, _ => by simp [writeBack]
  | _ :: _, _, [] => by simp [writeBack]
  | i :: is, s, b :: bs => by simp only [writeBack]; rw [wb_length]; simp

theorem wb_get {α : Type} : ∀ {is : List Nat} {s bs : List α}, is.Nodup → is.length = bs.length → ∀ i, (writeBack s is bs)[i]? = match posOf is i with | some j => if i < s.length then bs[j]? else none | none => s[i]?
  | [], s, bs, _, _, i => by simp [writeBack, posOf]
  | i0 :: is, s, [], _, h, _ => by simp at h
  | i0 :: is, s, b :: bs, hn, hl, i => by
    rw [List.nodup_cons] at hn
    simp only [writeBack]
    rw [wb_get hn.2 (by simpa using hl)]
    simp only [posOf]
    by_cases e : i0 = i
    · subst e
      simp only [if_true]
      have : posOf is i0 = none := by
        cases hp : posOf is i0 with
        | none => rfl
        | some k => exact absurd (List.mem_of_getElem? (posOf_some hp)) hn.1
      rw [this]
      simp only [List.getElem?_set_self']
      by_cases hlt : i0 < s.length
      · simp [hlt]
      · simp [hlt]
    · simp only [e, if_false]
      cases hp : posOf is i with
      | none => simp only [Option.map_none]; rw [List.getElem?_set_ne e]
      | some k => simp

/-! ### arguments -/

section
variable {c : Cx} {T : Tab}

theorem snapC_imm {s : Store} : ∀ {t : Ty} {vs : List AV}, vs.all isImm1 = true → snapC s t vs = snapC [] t vs
  | .cons h t, vs, hv => by
    have h1 : (vs.take h.size).all isImm1 = true := by
      rw [List.all_eq_true] at *; exact fun x hx => hv x (List.mem_of_mem_take hx)
    have h2 : (vs.drop h.size).all isImm1 = true := by
      rw [List.all_eq_true] at *; exact fun x hx => hv x (List.mem_of_mem_drop hx)
    simp only [snapC, snapC_imm h1, snapC_imm h2]
  | .nil, vs, _ => rfl
  | .bool, vs, _ => rfl
  | .int _, vs, _ => rfl
  | .str, vs, _ => rfl
  | .sl t, vs, hv => by
    match vs, hv with
    | [], _ => rfl
    | [v], hv =>
      cases v <;> first
        | rfl
        | (simp [isImm1] at hv)
    | _ :: _ :: _, _ => simp [snapC]

theorem snap_imm {s : Store} {t : Ty} {v : AV} (h : isImm v = true) : snap s t v = snap [] t v := by
  cases v with
  | d t' v => rfl
  | agg cs => 
    simp only [snap]
    split
    · exact snapC_imm h
    · rfl
  | cptr a x f => 
    simp only [snap]
    split
    · rfl
    · exact snapC_imm (by simp [AV.cells, isImm1])
  | e0 a => 
    simp only [snap]
    split
    · rfl
    · exact snapC_imm (by simp [AV.cells, isImm1])
  | fn f cap => 
    simp only [snap]
    split
    · rfl
    · exact snapC_imm (by simp [AV.cells])
  | _ => simp [isImm, isImm1] at h

theorem VC_rep3 {w : World} {N : Fz} {r : List (Option Nat)} {s : Store} {t : Ty} {u : t.D} {x : Value} {cs : List Value} (h : VC t x cs) (hr : RepC w N t u cs) : Rep3 ⟨w, N, r, s⟩ (.d t u) x := by
  refine ⟨cs, ?_, hr⟩
  unfold VC at h
  exact h

theorem capB_rep (hi : Inv c) {v a : AV} {x : Value} (h : capB c.s v = some a) (hr : Rep3 c v x) : Rep3 ⟨c.w, Fz.of c.N2, [], []⟩ a x := by
  have hm : ∀ b, c.N b → c.N2 b ∧ c.w.heap[b]? = c.w.heap[b]? := fun b hb => ⟨.inl hb, rfl⟩
  cases v with
  | d t v =>
    simp only [capB, Option.some.injEq] at h
    subst h
    obtain ⟨cs, h1, h2⟩ := hr
    exact ⟨cs, h1, h2.mono hm⟩
  | cptr t v f =>
    simp only [capB, Option.some.injEq] at h
    subst h
    obtain ⟨b, o, cs, ty, fr, h1, h2, h3, h4, h5⟩ := hr
    exact ⟨b, o, cs, ty, fr, h1, .inl h2, h3, h4, h5.mono hm⟩
  | ptr i e f =>
    simp only [capB] at h
    split at h
    · rename_i t xs hs
      obtain ⟨y, h1, h2⟩ := Option.map_eq_some_iff.mp h
      subst h2
      obtain ⟨_, bk, hb, hr⟩ := hr
      rw [hs] at hb
      obtain rfl := Option.some.inj hb
      obtain ⟨b, cs, k1, k2, k3⟩ := hr trivial
      have hB := hi.blk i _ hs
      rcases hB.1 with hB | ⟨b', cs', k4, k5, k6⟩
      · subst hB; simp at h1
      · obtain ⟨rfl, rfl⟩ := at_eq k1 k4
        obtain ⟨k7, ty, k8⟩ := k1
        obtain ⟨hlt, hy⟩ := List.getElem?_eq_some_iff.mp h1
        have hle := le_mul (n := t.size) hlt
        refine ⟨b, e * t.size, cs, ty, (0, 0), k2, .inr (.inl ⟨i, k7⟩), k8, by simp only [Blk.sz] at *; omega, ?_⟩
        have := (k6 e hlt).mono hm
        rw [hy] at this
        exact this
    · cases h
  | _ => cases h

theorem caps_repB (hi : Inv c) : ∀ {vs as : List AV} {xs : List Value}, mapO (capB c.s) vs = some as → All2 (Rep3 c) vs xs → All2 (Rep3 ⟨c.w, Fz.of c.N2, [], []⟩) as xs
  | [], as, [], h, _ => by simp [mapO] at h; subst h; trivial
  | v :: vs, as, x :: xs, h, hr => by
    simp only [mapO] at h
    obtain ⟨a, h1, h2⟩ := Option.bind_eq_some_iff.mp h
    obtain ⟨r, h3, h4⟩ := Option.map_eq_some_iff.mp h2
    subst h4
    exact ⟨capB_rep hi h1 hr.1, caps_repB hi h3 hr.2⟩
  | [], _, _ :: _, _, hr => hr.elim
  | _ :: _, _, [], _, hr => hr.elim

/-- one cell values among themselves -/
theorem capB1_rep (hi : Inv c) {v a : AV} {x : Value} (h : capB c.s v = some a) (hr : Rep1 c v x) : Rep1 ⟨c.w, Fz.of c.N2, [], []⟩ a x := by
  have h3 := capB_rep hi h (Rep3_of2 (Rep2_of1 hr))
  cases v with
  | d t v =>
    simp only [capB, Option.some.injEq] at h
    subst h
    exact ⟨hr.1, hr.2.mono fun b hb => ⟨.inl hb, rfl⟩⟩
  | cptr t v f => simp only [capB, Option.some.injEq] at h; subst h; exact h3
  | ptr i e f =>
    simp only [capB] at h
    split at h
    · obtain ⟨y, _, h2⟩ := Option.map_eq_some_iff.mp h
      subst h2
      exact h3
    · cases h
  | _ => cases h

theorem caps1_repB (hi : Inv c) : ∀ {vs as : List AV} {xs : List Value}, mapO (capB c.s) vs = some as → All2 (Rep1 c) vs xs → All2 (Rep1 ⟨c.w, Fz.of c.N2, [], []⟩) as xs
  | [], as, [], h, _ => by simp [mapO] at h; subst h; trivial
  | v :: vs, as, x :: xs, h, hr => by
    simp only [mapO] at h
    obtain ⟨a, h1, h2⟩ := Option.bind_eq_some_iff.mp h
    obtain ⟨r, h3, h4⟩ := Option.map_eq_some_iff.mp h2
    subst h4
    exact ⟨capB1_rep hi h1 hr.1, caps1_repB hi h3 hr.2⟩
  | [], _, _ :: _, _, hr => hr.elim
  | _ :: _, _, [], _, hr => hr.elim

theorem argB_rep (hi : Inv c) {t : TypeId} {v a : AV} {x : Value} (h : argB T c.s t v = some a) (hr : Rep3 c v x) : Rep3 ⟨c.w, Fz.of c.N2, [], []⟩ a x := by
  unfold argB at h
  split at h
  · obtain ⟨r, h1, h2⟩ := Option.map_eq_some_iff.mp h
    subst h2
    obtain ⟨vs, k1, k2⟩ := hr
    exact ⟨vs, k1, caps1_repB hi h1 k2⟩
  · exact capB_rep hi (v := .cptr _ _ _) h hr
  · exact capB_rep hi h hr
  · obtain ⟨A, h1, h2⟩ := Option.bind_eq_some_iff.mp h
    obtain ⟨u, h3, h4⟩ := Option.map_eq_some_iff.mp h2
    subst h4
    obtain ⟨cs, k1, k2⟩ := snap_rep hi hr h3
    exact VC_rep3 k1 k2

theorem argsB_rep (hi : Inv c) : ∀ {ts : List TypeId} {vs as : List AV} {xs : List Value}, argsB T c.s ts vs = some as → All2 (Rep3 c) vs xs → All2 (Rep3 ⟨c.w, Fz.of c.N2, [], []⟩) as xs
  | [], [], as, [], h, _ => by simp [argsB] at h; subst h; trivial
  | t :: ts, v :: vs, as, x :: xs, h, hr => by
    simp only [argsB] at h
    obtain ⟨a, h1, h2⟩ := Option.bind_eq_some_iff.mp h
    obtain ⟨r, h3, h4⟩ := Option.map_eq_some_iff.mp h2
    subst h4
    exact ⟨argB_rep hi h1 hr.1, argsB_rep hi h3 hr.2⟩
  | [], _ :: _, _, _, h, _ => by simp [argsB] at h
  | _ :: _, [], _, _, h, _ => by simp [argsB] at h
  | _, [], _, _ :: _, _, hr => hr.elim
  | _, _ :: _, _, [], _, hr => hr.elim

/-! values that do not refer to the store -/

theorem capB_imm {v a : AV} {x : Value} (hv : isImm v = true) (h : capB c.s v = some a) (hr : Rep3 c v x) : Rep3 ⟨c.w, Fz.of c.N, [], []⟩ a x := by
  cases v with
  | d t v => simp only [capB, Option.some.injEq] at h; subst h; exact hr
  | cptr t v f => simp only [capB, Option.some.injEq] at h; subst h; exact hr
  | ptr i e f => cases hv
  | _ => cases h

theorem capB1_imm {v a : AV} {x : Value} (hv : isImm1 v = true) (h : capB c.s v = some a) (hr : Rep1 c v x) : Rep1 ⟨c.w, Fz.of c.N, [], []⟩ a x := by
  cases v with
  | d t v => simp only [capB, Option.some.injEq] at h; subst h; exact hr
  | cptr t v f => simp only [capB, Option.some.injEq] at h; subst h; exact hr
  | ptr i e f => cases hv
  | _ => cases h

theorem caps_imm : ∀ {vs as : List AV} {xs : List Value}, vs.all isImm = true → mapO (capB c.s) vs = some as → All2 (Rep3 c) vs xs → All2 (Rep3 ⟨c.w, Fz.of c.N, [], []⟩) as xs
  | [], as, [], _, h, _ => by simp [mapO] at h; subst h; trivial
  | v :: vs, as, x :: xs, hv, h, hr => by
    simp only [List.all_cons, Bool.and_eq_true] at hv
    simp only [mapO] at h
    obtain ⟨a, h1, h2⟩ := Option.bind_eq_some_iff.mp h
    obtain ⟨r, h3, h4⟩ := Option.map_eq_some_iff.mp h2
    subst h4
    exact ⟨capB_imm hv.1 h1 hr.1, caps_imm hv.2 h3 hr.2⟩
  | [], _, _ :: _, _, _, hr => hr.elim
  | _ :: _, _, [], _, _, hr => hr.elim

theorem caps1_imm : ∀ {vs as : List AV} {xs : List Value}, vs.all isImm1 = true → mapO (capB c.s) vs = some as → All2 (Rep1 c) vs xs → All2 (Rep1 ⟨c.w, Fz.of c.N, [], []⟩) as xs
  | [], as, [], _, h, _ => by simp [mapO] at h; subst h; trivial
  | v :: vs, as, x :: xs, hv, h, hr => by
    simp only [List.all_cons, Bool.and_eq_true] at hv
    simp only [mapO] at h
    obtain ⟨a, h1, h2⟩ := Option.bind_eq_some_iff.mp h
    obtain ⟨r, h3, h4⟩ := Option.map_eq_some_iff.mp h2
    subst h4
    exact ⟨capB1_imm hv.1 h1 hr.1, caps1_imm hv.2 h3 hr.2⟩
  | [], _, _ :: _, _, _, hr => hr.elim
  | _ :: _, _, [], _, _, hr => hr.elim

theorem argB_imm {t : TypeId} {v a : AV} {x : Value} (hv : isImm v = true) (h : argB T c.s t v = some a) (hr : Rep3 c v x) : Rep3 ⟨c.w, Fz.of c.N, [], []⟩ a x := by
  unfold argB at h
  split at h
  · obtain ⟨r, h1, h2⟩ := Option.map_eq_some_iff.mp h
    subst h2
    obtain ⟨vs, k1, k2⟩ := hr
    exact ⟨vs, k1, caps1_imm hv h1 k2⟩
  · exact capB_imm (v := .cptr _ _ _) hv h hr
  · exact capB_imm hv h hr
  · obtain ⟨A, h1, h2⟩ := Option.bind_eq_some_iff.mp h
    obtain ⟨u, h3, h4⟩ := Option.map_eq_some_iff.mp h2
    subst h4
    rw [snap_imm hv] at h3
    obtain ⟨cs, k1, k2⟩ := snap0_rep hr h3
    exact VC_rep3 k1 k2

theorem argsB_imm : ∀ {ts : List TypeId} {vs as : List AV} {xs : List Value}, vs.all isImm = true → argsB T c.s ts vs = some as → All2 (Rep3 c) vs xs → All2 (Rep3 ⟨c.w, Fz.of c.N, [], []⟩) as xs
  | [], [], as, [], _, h, _ => by simp [argsB] at h; subst h; trivial
  | t :: ts, v :: vs, as, x :: xs, hv, h, hr => by
    simp only [List.all_cons, Bool.and_eq_true] at hv
    simp only [argsB] at h
    obtain ⟨a, h1, h2⟩ := Option.bind_eq_some_iff.mp h
    obtain ⟨r, h3, h4⟩ := Option.map_eq_some_iff.mp h2
    subst h4
    exact ⟨argB_imm hv.1 h1 hr.1, argsB_imm hv.2 h3 hr.2⟩
  | [], _ :: _, _, _, _, h, _ => by simp [argsB] at h
  | _ :: _, [], _, _, _, h, _ => by simp [argsB] at h
  | _, [], _, _ :: _, _, _, hr => hr.elim
  | _, _ :: _, _, [], _, _, hr => hr.elim

/-! results as plain data -/

theorem frzAll_rep (hi : Inv c) : ∀ {ts : List Ty} {vs us : List AV} {xs : List Value}, frzAll c.s ts vs = some us → All2 (Rep2 c) vs xs → ∀ (d : Nat → Nat → Nat → Prop) (r : List (Option Nat)) (s : Store), All2 (Rep2 ⟨c.w, ⟨c.N2, d⟩, r, s⟩) us xs
  | [], [], us, [], h, _, _, _, _ => by simp [frzAll] at h; subst h; trivial
  | t :: ts, v :: vs, us, x :: xs, h, hr, d, r, s => by
    simp only [frzAll] at h
    obtain ⟨a, h1, h2⟩ := Option.bind_eq_some_iff.mp h
    obtain ⟨q, h3, h4⟩ := Option.map_eq_some_iff.mp h2
    subst h4
    obtain ⟨cs, k1, k2⟩ := snap_rep hi (Rep3_of2 hr.1) h1
    exact ⟨⟨cs, k1, k2⟩, frzAll_rep hi h3 hr.2 d r s⟩
  | [], _ :: _, _, _, h, _, _, _, _ => by simp [frzAll] at h
  | _ :: _, [], _, _, h, _, _, _, _ => by simp [frzAll] at h
  | _, [], _, _ :: _, _, hr, _, _, _ => hr.elim
  | _, _ :: _, _, [], _, hr, _, _, _ => hr.elim

theorem frz_rep (hi : Inv c) {rt : TypeId} {v u : AV} {x : Value} (h : frz T c.s rt v = some u) (hr : Rep3 c v x) (d : Nat → Nat → Nat → Prop) (r : List (Option Nat)) (s : Store) : Rep3 ⟨c.w, ⟨c.N2, d⟩, r, s⟩ u x := by
  unfold frz at h
  split at h
  · obtain ⟨xs, k1, k2⟩ := hr
    split at h
    · simp only [Option.some.injEq] at h
      subst h
      refine ⟨xs, k1, ?_⟩
      cases xs with
      | nil => trivial
      | cons _ _ => exact k2.elim
    · obtain ⟨ts, h1, h2⟩ := Option.bind_eq_some_iff.mp h
      obtain ⟨us, h3, h4⟩ := Option.map_eq_some_iff.mp h2
      subst h4
      exact ⟨xs, k1, frzAll_rep hi h3 k2 d r s⟩
  · obtain ⟨t, h1, h2⟩ := Option.bind_eq_some_iff.mp h
    obtain ⟨y, h3, h4⟩ := Option.map_eq_some_iff.mp h2
    subst h4
    obtain ⟨cs, k1, k2⟩ := snap_rep hi hr h3
    exact VC_rep3 k1 k2

end
end Go.Ev

/-
  CALLS: what an oracle says, and what follows for a call in a richer state.
-/
namespace Go.Ev

def Known (P : Program) (f : FuncId) : Prop := ∃ fn c, P.funcs[f]? = some fn ∧ fn.body = some c ∧ (fn.name == "runtime.NumGoroutine") = false

/-- a call of a function with a body, or of one that the model carries out itself -/
def CallsE (P : Program) (f : FuncId) (xs : Array Value) (w : World) (R : Ending → World → Prop) : Prop :=
  (Known P f ∧ Calls P f xs w R) ∨ ∃ y w', (callFunc f xs).run P w = .ok (.value y) w' ∧ R (.returned y) w'

theorem CallsE.mono {P : Program} {f : FuncId} {xs : Array Value} {w : World} {R R' : Ending → World → Prop} (h : CallsE P f xs w R) (hm : ∀ e w', R e w' → R' e w') : CallsE P f xs w R' := by
  rcases h with ⟨hk, h⟩ | ⟨y, w', h1, h2⟩
  · exact .inl ⟨hk, Calls.mono h hm⟩
  · exact .inr ⟨y, w', h1, hm _ _ h2⟩

/-- a call comes back with a value of this description, the store changed so -/
def SemRun (P : Program) (f : FuncId) (args : List AV) (s : Store) (v : AV) (s' : Store) : Prop :=
  ∀ (c : Cx) (xs : Array Value), c.s = s → Inv c → All2 (Rep3 c) args xs.toList →
    CallsE P f xs c.w fun e w' => ∃ y c', e = .returned y ∧ c'.w = w' ∧ c'.s = s' ∧ Inv c' ∧ Ext c c' ∧ Rep3 c' v y

def SemCall (P : Program) (f : FuncId) (args : List AV) (s : Store) (v : AV) (s' : Store) : Prop := SemRun P f args s v s'

def OracleOk (P : Program) (O : Oracle) : Prop :=
  ∀ f args s, (∀ (γ : Type) (k : AV → Store → Option γ), O.run f args s k = none) ∨ ∃ v s', SemCall P f args s v s' ∧ ∀ (γ : Type) (k : AV → Store → Option γ), O.run f args s k = k v s'

/-- what a callee that owned nothing leaves of what was there -/
structure Kept (c : Cx) (w' : World) : Prop where
  os : w'.os = c.w.os
  tape : w'.tape = c.w.tape
  output : w'.output = c.w.output
  fz : ∀ a : Addr, a.block < c.w.heap.size → w'.frozen? a = c.w.frozen? a
  size : c.w.heap.size ≤ w'.heap.size
  old : ∀ b, b < c.w.heap.size → w'.heap[b]? = c.w.heap[b]?
  shape : ∀ (b : Nat) (cs : Array Value) (ty : TypeId), c.w.heap[b]? = some (.cells cs ty (0, 0)) → ∃ cs' : Array Value, w'.heap[b]? = some (.cells cs' ty (0, 0)) ∧ cs'.size = cs.size

section
variable {P : Program} {T : Tab} {c : Cx}

theorem not_owns_nil {w : World} {N : Nat → Prop} {s : Store} {b : Nat} : ¬ (⟨w, Fz.of N, [], s⟩ : Cx).owns b := fun h => by
  rcases h with ⟨id, h⟩ | ⟨id, p, h⟩
  · simp at h
  · exact h

theorem inv_nil (N : Nat → Prop) (hN : ∀ b, N b → b < c.w.heap.size) : Inv ⟨c.w, Fz.of N, [], []⟩ :=
  ⟨rfl, fun i j b h => by simp at h, fun i id p b h => by simp at h, fun id p id' p' b h => h.elim, fun b h => absurd h not_owns_nil, hN, fun id bk h => by simp at h⟩

theorem Kept.of {N : Nat → Prop} {c1 : Cx} (h : Ext ⟨c.w, Fz.of N, [], []⟩ c1) : Kept c c1.w :=
  ⟨h.os, h.tape, h.output, h.fz, h.size, fun b hb => h.out b hb not_owns_nil, h.shape⟩

theorem rows_append {c : Cx} {r' : List (Option Nat)} {b id : Nat} (h : (c.r ++ r')[id]? = some (some b)) : (∃ id : Nat, c.r[id]? = some (some b)) ∨ ∃ id : Nat, r'[id]? = some (some b) := by
  rw [List.getElem?_append] at h
  split at h
  · exact .inl ⟨id, h⟩
  · exact .inr ⟨_, h⟩

/-- the rows of rows of both -/
def Fz.join (N : Nat → Prop) (d1 d2 : Nat → Nat → Nat → Prop) (n : Nat) : Fz := ⟨N, fun id p b => d1 id p b ∨ (n ≤ id ∧ d2 (id - n) p b)⟩

/-- the callee's blocks are joined to the caller's -/
theorem join (hi : Inv c) {c1 : Cx} (h1 : Inv c1) (hk : Kept c c1.w) (hN : ∀ b, c.N b → c1.N b) (hN' : ∀ b, c1.N b → c.N b ∨ c.w.heap.size ≤ b) (ho : ∀ b, c1.owns b → c.w.heap.size ≤ b) {v : AV} {y : Value} (hv : Rep3 c1 v y) :
    ∃ c2 : Cx, c2.w = c1.w ∧ c2.s = c.s ++ c1.s.map (renB fun i => some (c.s.length + i)) ∧ Inv c2 ∧ Ext c c2 ∧ Rep3 c2 (ren3 (fun i => some (c.s.length + i)) v) y := by
  let c2 : Cx := ⟨c1.w, Fz.join c1.N c.N.d c1.N.d c.s.length, c.r ++ c1.r, c.s ++ c1.s.map (renB fun i => some (c.s.length + i))⟩
  have hren : Ren c1 c2 fun i => some (c.s.length + i) := by
    refine ⟨rfl, fun _ h => h, fun i j bk hm hb => ?_⟩
    simp only [Option.some.injEq] at hm
    subst hm
    refine ⟨renB (fun i => some (c.s.length + i)) bk, by simp [c2, List.getElem?_append_right, hb], fun hl => ?_⟩
    obtain ⟨k1, k2, k3⟩ := renB_len (m := fun i => some (c.s.length + i)) bk
    refine ⟨?_, k3.mp hl, k1, k2⟩
    show (c.r ++ c1.r)[c.s.length + i]? = _
    rw [List.getElem?_append_right (by rw [hi.len]; omega), hi.len]
    congr 1; omega
  have howns : ∀ b, c2.owns b → c.owns b ∨ c1.owns b := fun b hb => by
    rcases hb with ⟨id, hb⟩ | ⟨id, p, hb | ⟨_, hb⟩⟩
    · exact (rows_append hb).imp .inl .inl
    · exact .inl (.inr ⟨id, p, hb⟩)
    · exact .inr (.inr ⟨_, p, hb⟩)
  have hext : Ext c c2 := by
    refine ⟨hk.os, hk.tape, hk.output, hk.fz, hk.size, fun b hb _ => hk.old b hb, hk.shape, hN, fun b hb => (hN' b hb).imp id .inl, fun b hb => (howns b hb).imp id (ho b), fun id bk hb => ?_⟩
    have hlt := (List.getElem?_eq_some_iff.mp hb).1
    refine ⟨bk, by simp only [c2]; rw [List.getElem?_append_left hlt]; exact hb, fun hl => ⟨hl, rfl, rfl, ?_⟩⟩
    show (c.r ++ c1.r)[id]? = _
    rw [List.getElem?_append_left (by rw [hi.len]; exact hlt)]
  refine ⟨c2, rfl, rfl, ⟨?_, ?_, ?_, ?_, ?_, ?_, ?_⟩, hext, hv.ren hren⟩
  · simp [c2, hi.len, h1.len]
  · intro i j b hb hb'
    simp only [c2] at hb hb'
    rw [List.getElem?_append] at hb hb'
    split at hb <;> split at hb'
    · exact hi.inj i j b hb hb'
    · have e1 := (hi.own b (.inl ⟨i, hb⟩)).1
      have e2 := ho b (.inl ⟨_, hb'⟩)
      omega
    · have e1 := (hi.own b (.inl ⟨j, hb'⟩)).1
      have e2 := ho b (.inl ⟨_, hb⟩)
      omega
    · have := h1.inj _ _ b hb hb'
      omega
  · intro i id p b hb hb'
    simp only [c2] at hb
    rw [List.getElem?_append] at hb
    rcases hb' with hb' | ⟨_, hb'⟩ <;> split at hb
    · exact hi.dis i id p b hb hb'
    · have e1 := (hi.own b (.inr ⟨id, p, hb'⟩)).1
      have e2 := ho b (.inl ⟨_, hb⟩)
      omega
    · have e1 := (hi.own b (.inl ⟨i, hb⟩)).1
      have e2 := ho b (.inr ⟨_, p, hb'⟩)
      omega
    · exact h1.dis _ _ p b hb hb'
  · intro id p id' p' b hb hb'
    rcases hb with hb | ⟨hl, hb⟩ <;> rcases hb' with hb' | ⟨hl', hb'⟩
    · exact hi.din _ _ _ _ b hb hb'
    · have e1 := (hi.own b (.inr ⟨id, p, hb⟩)).1
      have e2 := ho b (.inr ⟨_, p', hb'⟩)
      omega
    · have e1 := (hi.own b (.inr ⟨id', p', hb'⟩)).1
      have e2 := ho b (.inr ⟨_, p, hb⟩)
      omega
    · obtain ⟨k1, k2⟩ := h1.din _ _ _ _ b hb hb'
      exact ⟨by omega, k2⟩
  · intro b hb
    rcases howns b hb with hb | hb
    · have e1 := hi.own b hb
      have := hk.size
      refine ⟨Nat.lt_of_lt_of_le e1.1 hk.size, fun hn => ?_⟩
      rcases hN' b hn with hn | hn
      · exact e1.2 hn
      · omega
    · exact h1.own b hb
  · exact h1.old
  · intro id bk hb
    simp only [c2] at hb
    rw [List.getElem?_append] at hb
    split at hb
    · rename_i hlt
      exact RepB.ext hi hext (by show (c.r ++ c1.r)[id]? = _; rw [List.getElem?_append_left (by rw [hi.len]; exact hlt)]) (fun b hb' => hk.old b (hi.own b (.inl ⟨id, hb'⟩)).1) (fun p b hb' => ⟨hk.old b (hi.own b (.inr ⟨id, p, hb'⟩)).1, .inl hb'⟩) (hi.blk id bk hb)
    · rename_i hge
      rw [List.getElem?_map] at hb
      obtain ⟨bk1, hb1, rfl⟩ := Option.map_eq_some_iff.mp hb
      refine RepB.ren hren (i := id - c.s.length) ?_ (fun _ p b hb' => .inr ⟨by omega, hb'⟩) (h1.blk _ _ hb1)
      show (c.r ++ c1.r)[id]? = _
      rw [List.getElem?_append_right (by rw [hi.len]; omega), hi.len]

/-- the callee's blocks are frozen -/
theorem freeze (hi : Inv c) {c1 : Cx} (h1 : Inv c1) (hk : Kept c c1.w) (hN : ∀ b, c.N b → c1.N b) (hN' : ∀ b, c1.N b → c.N b ∨ c.w.heap.size ≤ b) (ho : ∀ b, c1.owns b → c.w.heap.size ≤ b) {rt : TypeId} {v u : AV} {y : Value} (hv : Rep3 c1 v y) (hf : frz T c1.s rt v = some u) :
    ∃ c2 : Cx, c2.w = c1.w ∧ c2.s = c.s ∧ Inv c2 ∧ Ext c c2 ∧ Rep3 c2 u y := by
  let c2 : Cx := ⟨c1.w, ⟨c1.N2, c.N.d⟩, c.r, c.s⟩
  have hN2 : ∀ b, c1.N2 b → c.N b ∨ c.w.heap.size ≤ b := fun b hb => by
    rcases hb with hb | hb
    · exact hN' b hb
    · exact .inr (ho b hb)
  have hext : Ext c c2 :=
    ⟨hk.os, hk.tape, hk.output, hk.fz, hk.size, fun b hb _ => hk.old b hb, hk.shape, fun b hb => .inl (hN b hb), fun b hb => (hN2 b hb).imp id .inl, fun b hb => .inl hb, fun id bk hb => ⟨bk, hb, fun hl => ⟨hl, rfl, rfl, rfl⟩⟩⟩
  refine ⟨c2, rfl, rfl, ⟨hi.len, hi.inj, hi.dis, hi.din, fun b hb => ?_, fun b hb => ?_, fun id bk hb => ?_⟩, hext, frz_rep h1 hf hv c.N.d c.r c.s⟩
  · have e1 := hi.own b hb
    refine ⟨Nat.lt_of_lt_of_le e1.1 hk.size, fun hn => ?_⟩
    rcases hN2 b hn with hn | hn
    · exact e1.2 hn
    · omega
  · rcases hb with hb | hb
    · exact h1.old b hb
    · exact (h1.own b hb).1
  · exact RepB.ext hi hext rfl (fun b hb' => hk.old b (hi.own b (.inl ⟨id, hb'⟩)).1) (fun p b hb' => ⟨hk.old b (hi.own b (.inr ⟨id, p, hb'⟩)).1, hb'⟩) (hi.blk id bk hb)

/-- what the caller owns is no part of what the callee hands back -/
theorem strip_call (hi : Inv c) {N : Nat → Prop} {c1 : Cx} (h1 : Inv c1) (he : Ext ⟨c.w, Fz.of N, [], []⟩ c1) (hN : ∀ b, c.N b → N b) (hN' : ∀ b, N b → c.N2 b) {v : AV} {y : Value} (hv : Rep3 c1 v y) (hn : noL3 v = true) (hb : c1.s.all blkNoL = true) :
    ∃ c2 : Cx, c2.w = c1.w ∧ c2.s = c1.s ∧ Inv c2 ∧ (∀ b, c.N b → c2.N b) ∧ (∀ b, c2.N b → c.N b ∨ c.w.heap.size ≤ b) ∧ (∀ b, c2.owns b → c.w.heap.size ≤ b) ∧ Rep3 c2 v y := by
  have ho : ∀ b, c1.owns b → c.w.heap.size ≤ b := fun b hb => (he.own b hb).resolve_left not_owns_nil
  refine ⟨⟨c1.w, ⟨fun b => c1.N b ∧ ¬ c.owns b, c1.N.d⟩, c1.r, c1.s⟩, rfl, rfl, ⟨h1.len, h1.inj, h1.dis, h1.din, fun b hb => ⟨(h1.own b hb).1, fun hn => (h1.own b hb).2 hn.1⟩, fun b hb => h1.old b hb.1, fun id bk hbk => ?_⟩, ?_, ?_, ho, hv.strip _ hn⟩
  · exact RepB.strip ⟨fun b => c1.N b ∧ ¬ c.owns b, c1.N.d⟩ (fun _ _ _ h => h) (List.all_eq_true.mp hb bk (List.mem_of_getElem? hbk)) (h1.blk id bk hbk)
  · exact fun b hb => ⟨he.nm b (hN b hb), fun ho => (hi.own b ho).2 hb⟩
  · intro b hb
    rcases he.nn b hb.1 with h | h | h
    · rcases hN' b h with h | h
      · exact .inl h
      · exact absurd h hb.2
    · exact .inr h
    · exact absurd h not_owns_nil

theorem keep_call (hi : Inv c) {c1 : Cx} (h1 : Inv c1) (he : Ext ⟨c.w, Fz.of c.N, [], []⟩ c1) :
    (∀ b, c.N b → c1.N b) ∧ (∀ b, c1.N b → c.N b ∨ c.w.heap.size ≤ b) ∧ (∀ b, c1.owns b → c.w.heap.size ≤ b) :=
  ⟨he.nm, fun b hb => (he.nn b hb).imp id (fun h => h.resolve_right not_owns_nil), fun b hb => (he.own b hb).resolve_left not_owns_nil⟩

end
end Go.Ev

/-
  A CALL IN ITS THREE MODES.
-/
namespace Go.Ev

section
variable {P : Program} {T : Tab} {c : Cx}

theorem All2.split {α β : Type} {R : α → β → Prop} : ∀ {as bs : List α} {xs : List β}, All2 R (as ++ bs) xs → ∃ ys zs, xs = ys ++ zs ∧ All2 R as ys ∧ All2 R bs zs
  | [], bs, xs, h => ⟨[], xs, rfl, trivial, h⟩
  | a :: as, bs, [], h => h.elim
  | a :: as, bs, x :: xs, h => by
    obtain ⟨ys, zs, rfl, h1, h2⟩ := All2.split h.2
    exact ⟨x :: ys, zs, rfl, ⟨h.1, h1⟩, h2⟩

theorem borrow_run {g : FuncId} {rt : TypeId} {ts : List TypeId} {args cap as cs : List AV} {s : Store} {v : AV} {s1 : Store} (hA : argsB T s ts args = some as) (hC : mapO (capB s) cap = some cs)
    (hr : SemRun P g (as ++ cs) [] v s1) (hn : ((args ++ cap).all isImm || (noL3 v && s1.all blkNoL)) = true) {u : AV} {s' : Store}
    (hu : (∃ mu : Unit, u = ren3 (fun i => some (s.length + i)) v ∧ s' = s ++ s1.map (renB fun i => some (s.length + i))) ∨ (frz T s1 rt v = some u ∧ s' = s)) :
    SemRun P g (args ++ cap) s u s' := by
  intro c xs hs hi hx
  subst hs
  -- the callee's own view: a set of blocks that nobody writes meanwhile
  obtain ⟨N, hN, hN', hxs, hmine⟩ : ∃ N : Nat → Prop, (∀ b, c.N b → N b) ∧ (∀ b, N b → c.N2 b) ∧ All2 (Rep3 ⟨c.w, Fz.of N, [], []⟩) (as ++ cs) xs.toList ∧
      ∀ (c1 : Cx) (y : Value), Ext ⟨c.w, Fz.of N, [], []⟩ c1 → Inv c1 → c1.s = s1 → Rep3 c1 v y → ∃ c2 : Cx, c2.w = c1.w ∧ c2.s = c1.s ∧ Inv c2 ∧ (∀ b, c.N b → c2.N b) ∧ (∀ b, c2.N b → c.N b ∨ c.w.heap.size ≤ b) ∧ (∀ b, c2.owns b → c.w.heap.size ≤ b) ∧ Rep3 c2 v y := by
    obtain ⟨ys, zs, e, k1, k2⟩ := hx.split
    rw [e]
    rcases Bool.or_eq_true_iff.mp hn with hn | hn
    · refine ⟨c.N, fun _ h => h, fun _ h => .inl h, (argsB_imm ?_ hA k1).append (caps_imm ?_ hC k2), fun c1 y he h1 _ hv => ?_⟩
      · rw [List.all_append, Bool.and_eq_true] at hn; exact hn.1
      · rw [List.all_append, Bool.and_eq_true] at hn; exact hn.2
      · obtain ⟨m1, m2, m3⟩ := keep_call hi h1 he
        exact ⟨c1, rfl, rfl, h1, m1, m2, m3, hv⟩
    · rw [Bool.and_eq_true] at hn
      exact ⟨c.N2, fun _ h => .inl h, fun _ h => h, (argsB_rep hi hA k1).append (caps_repB hi hC k2), fun c1 y he h1 hs1 hv => strip_call hi h1 he (fun _ h => .inl h) (fun _ h => h) hv hn.1 (by rw [hs1]; exact hn.2)⟩
  have hin : Inv (⟨c.w, Fz.of N, [], []⟩ : Cx) := inv_nil N fun b hb => by
    rcases hN' b hb with h | h
    · exact hi.old b h
    · exact (hi.own b h).1
  refine CallsE.mono (hr ⟨c.w, Fz.of N, [], []⟩ xs rfl hin hxs) ?_
  rintro e w' ⟨y, c1, rfl, rfl, hs1, h1, he, hv⟩
  obtain ⟨c2, e1, e2, k1, k2, k3, k4, k5⟩ := hmine c1 y he h1 hs1 hv
  have hk : Kept c c2.w := by rw [e1]; exact Kept.of he
  rcases hu with ⟨_, rfl, rfl⟩ | ⟨hf, rfl⟩
  · obtain ⟨c3, m1, m2, m3, m4, m5⟩ := join hi k1 hk k2 k3 k4 k5
    exact ⟨y, c3, rfl, m1.trans e1, by rw [m2, e2, hs1], m3, m4, m5⟩
  · obtain ⟨c3, m1, m2, m3, m4, m5⟩ := freeze (T := T) (rt := rt) hi k1 hk k2 k3 k4 k5 (by rw [e2, hs1]; exact hf)
    exact ⟨y, c3, rfl, m1.trans e1, m2, m3, m4, m5⟩

theorem isData_some {o : Option Blk} (h : isData o = true) : ∃ t xs, o = some (.data t xs) := by
  unfold isData at h
  split at h
  · exact ⟨_, _, rfl⟩
  · cases h

theorem sub_run {g : FuncId} {args : List AV} {s : Store} {is : List Nat} (hnd : is.Nodup) (hd : is.all (fun i => isData s[i]?) = true) {v : AV} {s1 : Store} {m : Nat → Option Nat}
    (hm : ∀ j, m j = if j < is.length then is[j]? else some (s.length + (j - is.length)))
    (hr : SemRun P g (args.map (ren3 (posOf is))) (is.map fun i => (s[i]?).getD .dead) v s1) (hl : is.length ≤ s1.length) :
    SemRun P g args s (ren3 m v) (writeBack s is ((s1.take is.length).map (renB m)) ++ (s1.drop is.length).map (renB m)) := by
  intro c xs hs hi hx
  subst hs
  let c0 : Cx := ⟨c.w, Fz.of c.N, is.map fun i => (c.r[i]?).getD none, is.map fun i => (c.s[i]?).getD .dead⟩
  have hlt : ∀ i ∈ is, i < c.s.length := fun i hmem => by
    obtain ⟨t, ys, h⟩ := isData_some (List.all_eq_true.mp hd i hmem)
    exact (List.getElem?_eq_some_iff.mp h).1
  have hr0 : ∀ (i j : Nat), is[j]? = some i → c0.r[j]? = c.r[i]? := fun i j h => by
    have h1 := hlt i (List.mem_of_getElem? h)
    simp only [c0, List.getElem?_map, h, Option.map_some]
    rw [List.getElem?_eq_getElem (by rw [hi.len]; exact h1)]
    rfl
  have hs0 : ∀ (i j : Nat), is[j]? = some i → c0.s[j]? = c.s[i]? := fun i j h => by
    have h1 := hlt i (List.mem_of_getElem? h)
    simp only [c0, List.getElem?_map, h, Option.map_some]
    rw [List.getElem?_eq_getElem h1]
    rfl
  have hpre : ∀ (j b : Nat), c0.r[j]? = some (some b) → ∃ i : Nat, is[j]? = some i ∧ c.r[i]? = some (some b) := fun j b h => by
    cases hj : is[j]? with
    | none => simp [c0, hj] at h
    | some i => exact ⟨i, rfl, by rw [← hr0 i j hj]; exact h⟩
  have hown0 : ∀ b, c0.owns b → ∃ i : Nat, i ∈ is ∧ c.r[i]? = some (some b) := fun b hb => by
    rcases hb with ⟨j, h⟩ | ⟨_, _, h⟩
    case inr => exact h.elim
    obtain ⟨i, h1, h2⟩ := hpre j b h
    exact ⟨i, List.mem_of_getElem? h1, h2⟩
  have hren0 : Ren c c0 (posOf is) := ⟨rfl, fun _ h => h, fun i j bk hj hb => by
    have := posOf_some hj
    exact ⟨bk, (hs0 i j this).trans hb, fun hl => ⟨hr0 i j this, hl, rfl, rfl⟩⟩⟩
  have hi0 : Inv c0 := by
    refine ⟨by simp [c0], fun i j b h1 h2 => ?_, fun i id p b _ h => h, fun _ _ _ _ _ h => h.elim, fun b hb => ?_, hi.old, fun id bk hb => ?_⟩
    · obtain ⟨i', k1, k2⟩ := hpre i b h1
      obtain ⟨j', k3, k4⟩ := hpre j b h2
      have e := hi.inj i' j' b k2 k4
      subst e
      have e1 := posOf_of hnd k1
      have e2 := posOf_of hnd k3
      rw [e1] at e2
      exact Option.some.inj e2
    · obtain ⟨i, _, h⟩ := hown0 b hb
      exact hi.own b (.inl ⟨i, h⟩)
    · cases hj : is[id]? with
      | none => simp [c0, hj] at hb
      | some i =>
        rw [hs0 i id hj] at hb
        obtain ⟨t, ys, hd'⟩ := isData_some (List.all_eq_true.mp hd i (List.mem_of_getElem? hj))
        rw [hd'] at hb
        obtain rfl := Option.some.inj hb
        exact RepB.ren hren0 (hr0 i id hj) (bk := .data t ys) (fun ⟨_, _, _, e⟩ => by cases e) (hi.blk i _ hd')
  refine CallsE.mono (hr c0 xs rfl hi0 (by
    have := All2.map_l (f := ren3 (posOf is)) (S := Rep3 c0) (fun a b h => Rep3.ren hren0 h) hx
    exact this)) ?_
  rintro e w' ⟨y, c1, rfl, rfl, hs1, h1, he, hv⟩
  have hl1 : is.length ≤ c1.s.length := by rw [hs1]; exact hl
  have hlr1 : is.length ≤ c1.r.length := by rw [h1.len]; exact hl1
  let c2 : Cx := ⟨c1.w, ⟨c1.N.n, fun id p b => c.N.d id p b ∨ ∃ i, m i = some id ∧ c1.N.d i p b⟩, writeBack c.r is (c1.r.take is.length) ++ c1.r.drop is.length, writeBack c.s is ((c1.s.take is.length).map (renB m)) ++ (c1.s.drop is.length).map (renB m)⟩
  -- where things lie
  have gs : ∀ id : Nat, c2.s[id]? = (if id < c.s.length then (match posOf is id with | some j => (c1.s[j]?).map (renB m) | none => c.s[id]?) else (c1.s[is.length + (id - c.s.length)]?).map (renB m)) := fun id => by
    simp only [c2]
    rw [List.getElem?_append, wb_length]
    split
    · rename_i hid
      rw [wb_get hnd (by simp [Nat.min_eq_left hl1])]
      cases hp : posOf is id with
      | none => rfl
      | some j =>
        have hj := (List.getElem?_eq_some_iff.mp (posOf_some hp)).1
        simp only [hid, if_true, List.getElem?_map, List.getElem?_take, hj]
    · rw [List.getElem?_map, List.getElem?_drop]
  have gr : ∀ id : Nat, c2.r[id]? = (if id < c.s.length then (match posOf is id with | some j => c1.r[j]? | none => c.r[id]?) else c1.r[is.length + (id - c.s.length)]?) := fun id => by
    simp only [c2]
    rw [List.getElem?_append, wb_length, hi.len]
    split
    · rename_i hid
      rw [wb_get hnd (by simp [Nat.min_eq_left hlr1])]
      cases hp : posOf is id with
      | none => rfl
      | some j =>
        have hj := (List.getElem?_eq_some_iff.mp (posOf_some hp)).1
        simp only [hi.len, hid, if_true, List.getElem?_take, hj]
    · rw [List.getElem?_drop]
  have mid : ∀ (i j : Nat), m i = some j → c2.r[j]? = c1.r[i]? ∧ c2.s[j]? = (c1.s[i]?).map (renB m) := fun i j h => by
    rw [hm] at h
    split at h
    · have hj := hlt j (List.mem_of_getElem? h)
      have hp := posOf_of hnd h
      rw [gr, gs]
      simp only [hj, if_true, hp, and_self]
    · rename_i hge
      simp only [Option.some.injEq] at h
      rw [gr, gs]
      have : ¬ j < c.s.length := by omega
      have e : is.length + (j - c.s.length) = i := by omega
      simp only [this, if_false, e, and_self]
  have hren : Ren c1 c2 m := ⟨rfl, fun _ h => h, fun i j bk hmi hb => by
    obtain ⟨k1, k2⟩ := mid i j hmi
    obtain ⟨l1, l2, l3⟩ := renB_len (m := m) bk
    exact ⟨renB m bk, by rw [k2, hb]; rfl, fun hl => ⟨k1, l3.mp hl, l1, l2⟩⟩⟩
  have hfrom : ∀ (id b : Nat), c2.r[id]? = some (some b) → (id < c.s.length ∧ id ∉ is ∧ c.r[id]? = some (some b)) ∨ ∃ i : Nat, m i = some id ∧ c1.r[i]? = some (some b) := fun id b h => by
    rw [gr] at h
    split at h
    · rename_i hid
      cases hp : posOf is id with
      | none => rw [hp] at h; exact .inl ⟨hid, posOf_none hp, h⟩
      | some j =>
        rw [hp] at h
        have hj := posOf_some hp
        exact .inr ⟨j, by rw [hm, if_pos (List.getElem?_eq_some_iff.mp hj).1]; exact hj, h⟩
    · exact .inr ⟨_, by rw [hm, if_neg (by omega)]; congr 1; omega, h⟩
  have hown1 : ∀ b, c1.owns b → (∃ i : Nat, i ∈ is ∧ c.r[i]? = some (some b)) ∨ c.w.heap.size ≤ b := fun b hb => by
    rcases he.own b hb with h | h
    · exact .inl (hown0 b h)
    · exact .inr h
  have hnn1 : ∀ b, c1.N b → c.N b ∨ c.w.heap.size ≤ b ∨ ∃ i : Nat, i ∈ is ∧ c.r[i]? = some (some b) := fun b hb => by
    rcases he.nn b hb with h | h | h
    · exact .inl h
    · exact .inr (.inl h)
    · exact .inr (.inr (hown0 b h))
  have hext : Ext c c2 := by
    refine ⟨he.os, he.tape, he.output, he.fz, he.size, fun b hb hno => he.out b hb fun ho => ?_, he.shape, he.nm, fun b hb => ?_, fun b hb => ?_, fun id bk hb => ?_⟩
    · obtain ⟨i, _, h⟩ := hown0 b ho
      exact hno (.inl ⟨i, h⟩)
    · rcases hnn1 b hb with h | h | ⟨i, _, h⟩
      · exact .inl h
      · exact .inr (.inl h)
      · exact .inr (.inr (.inl ⟨i, h⟩))
    · have old1 : c1.owns b → c.owns b ∨ c.w.heap.size ≤ b := fun ho => by
        rcases hown1 b ho with ⟨i', _, h⟩ | h
        · exact .inl (.inl ⟨i', h⟩)
        · exact .inr h
      rcases hb with ⟨id, hb⟩ | ⟨id, p, hb | ⟨i, _, hb⟩⟩
      · rcases hfrom id b hb with ⟨_, _, h⟩ | ⟨i, _, h⟩
        · exact .inl (.inl ⟨id, h⟩)
        · exact old1 (.inl ⟨i, h⟩)
      · exact .inl (.inr ⟨id, p, hb⟩)
      · exact old1 (.inr ⟨i, p, hb⟩)
    · have hid := (List.getElem?_eq_some_iff.mp hb).1
      cases hp : posOf is id with
      | none =>
        refine ⟨bk, by rw [gs, if_pos hid, hp]; exact hb, fun hl => ⟨hl, rfl, rfl, ?_⟩⟩
        rw [gr, if_pos hid, hp]
      | some j =>
        have hj := posOf_some hp
        obtain ⟨bk', k1, k2⟩ := he.ids j bk (by rw [hs0 id j hj]; exact hb)
        obtain ⟨l1, l2, l3⟩ := renB_len (m := m) bk'
        refine ⟨renB m bk', by rw [gs, if_pos hid, hp]; simp [k1], fun hl => ?_⟩
        obtain ⟨q1, q2, q3, q4⟩ := k2 (l3.mp hl)
        refine ⟨q1, l1.trans q2, l2.trans q3, ?_⟩
        rw [gr, if_pos hid, hp]
        exact q4.trans (hr0 id j hj)
  refine ⟨y, c2, rfl, rfl, by rw [← hs1], ⟨?_, ?_, ?_, ?_, ?_, h1.old, ?_⟩, hext, hv.ren hren⟩
  · simp only [c2, List.length_append, wb_length, List.length_map, List.length_drop, hi.len, h1.len]
  · intro i j b hb hb'
    rcases hfrom i b hb with ⟨_, k1, k2⟩ | ⟨i', k1, k2⟩ <;> rcases hfrom j b hb' with ⟨_, k3, k4⟩ | ⟨j', k3, k4⟩
    · exact hi.inj i j b k2 k4
    · rcases hown1 b (.inl ⟨j', k4⟩) with ⟨q, q1, q2⟩ | q
      · rw [hi.inj i q b k2 q2] at k1; exact absurd q1 k1
      · have := (hi.own b (.inl ⟨i, k2⟩)).1; omega
    · rcases hown1 b (.inl ⟨i', k2⟩) with ⟨q, q1, q2⟩ | q
      · rw [hi.inj j q b k4 q2] at k3; exact absurd q1 k3
      · have := (hi.own b (.inl ⟨j, k4⟩)).1; omega
    · have e := h1.inj i' j' b k2 k4
      subst e
      rw [k1] at k3
      exact Option.some.inj k3
  · intro i id p b hb hb'
    rcases hfrom i b hb with ⟨_, k1, k2⟩ | ⟨i', k1, k2⟩ <;> rcases hb' with hb' | ⟨j', _, hb'⟩
    · exact hi.dis i id p b k2 hb'
    · rcases hown1 b (.inr ⟨j', p, hb'⟩) with ⟨q, q1, q2⟩ | q
      · rw [hi.inj i q b k2 q2] at k1; exact k1 q1
      · have := (hi.own b (.inl ⟨i, k2⟩)).1; omega
    · rcases hown1 b (.inl ⟨i', k2⟩) with ⟨q, q1, q2⟩ | q
      · exact hi.dis q id p b q2 hb'
      · have := (hi.own b (.inr ⟨id, p, hb'⟩)).1; omega
    · exact h1.dis i' j' p b k2 hb'
  · intro id p id' p' b hb hb'
    rcases hb with hb | ⟨i, hm1, hb⟩ <;> rcases hb' with hb' | ⟨j, hm2, hb'⟩
    · exact hi.din _ _ _ _ b hb hb'
    · rcases hown1 b (.inr ⟨j, p', hb'⟩) with ⟨q, q1, q2⟩ | q
      · exact (hi.dis q id p b q2 hb).elim
      · have := (hi.own b (.inr ⟨id, p, hb⟩)).1; omega
    · rcases hown1 b (.inr ⟨i, p, hb⟩) with ⟨q, q1, q2⟩ | q
      · exact (hi.dis q id' p' b q2 hb').elim
      · have := (hi.own b (.inr ⟨id', p', hb'⟩)).1; omega
    · obtain ⟨k1, k2⟩ := h1.din _ _ _ _ b hb hb'
      subst k1
      rw [hm1] at hm2
      exact ⟨Option.some.inj hm2, k2⟩
  · intro b hb
    rcases hb with ⟨id, hb⟩ | ⟨id, p, hb | ⟨i, _, hb⟩⟩
    case inr.inl =>
      have e1 := hi.own b (.inr ⟨id, p, hb⟩)
      refine ⟨Nat.lt_of_lt_of_le e1.1 he.size, fun hn => ?_⟩
      rcases hnn1 b hn with h | h | ⟨q, q1, q2⟩
      · exact e1.2 h
      · omega
      · exact hi.dis q id p b q2 hb
    case inr.inr => exact h1.own b (.inr ⟨i, p, hb⟩)
    rcases hfrom id b hb with ⟨_, k1, k2⟩ | ⟨i', _, k2⟩
    · have e1 := hi.own b (.inl ⟨id, k2⟩)
      refine ⟨Nat.lt_of_lt_of_le e1.1 he.size, fun hn => ?_⟩
      rcases hnn1 b hn with h | h | ⟨q, q1, q2⟩
      · exact e1.2 h
      · omega
      · rw [hi.inj id q b k2 q2] at k1; exact k1 q1
    · exact h1.own b (.inl ⟨i', k2⟩)
  · intro id bk hb
    by_cases hid : id < c.s.length
    · cases hp : posOf is id with
      | none =>
        rw [gs, if_pos hid, hp] at hb
        refine RepB.ext hi hext (by rw [gr, if_pos hid, hp]) (fun b hb' => ?_) (fun p b hb' => ⟨?_, .inl hb'⟩) (hi.blk id bk hb)
        · refine he.out b (hi.own b (.inl ⟨id, hb'⟩)).1 fun ho => ?_
          obtain ⟨q, q1, q2⟩ := hown0 b ho
          rw [hi.inj id q b hb' q2] at hp
          exact posOf_none hp q1
        · refine he.out b (hi.own b (.inr ⟨id, p, hb'⟩)).1 fun ho => ?_
          obtain ⟨q, q1, q2⟩ := hown0 b ho
          exact hi.dis q id p b q2 hb'
      | some j =>
        rw [gs, if_pos hid, hp] at hb
        obtain ⟨bk1, hb1, rfl⟩ := Option.map_eq_some_iff.mp hb
        exact RepB.ren hren (by rw [gr, if_pos hid, hp]) (fun _ p b hb' => .inr ⟨j, by rw [hm, if_pos (List.getElem?_eq_some_iff.mp (posOf_some hp)).1]; exact posOf_some hp, hb'⟩) (h1.blk j bk1 hb1)
    · rw [gs, if_neg hid] at hb
      obtain ⟨bk1, hb1, rfl⟩ := Option.map_eq_some_iff.mp hb
      exact RepB.ren hren (by rw [gr, if_neg hid]) (fun _ p b hb' => .inr ⟨_, by rw [hm, if_neg (by omega)]; congr 1; omega, hb'⟩) (h1.blk _ bk1 hb1)

theorem callV_sound {O : Oracle} (hO : OracleOk P O) (M : FuncId → Mode) (mu : Bool) (rt : TypeId) (g : FuncId) (ts : List TypeId) (args cap : List AV) (s : Store) :
    (∀ (γ : Type) (k : AV → Store → Option γ), callV T M O mu rt g ts args cap s k = none) ∨ ∃ v s', SemCall P g (args ++ cap) s v s' ∧ ∀ (γ : Type) (k : AV → Store → Option γ), callV T M O mu rt g ts args cap s k = k v s' := by
  unfold callV
  cases hM : M g with
  | borrow =>
    simp only
    cases hA : argsB T s ts args with
    | none => exact .inl fun _ _ => rfl
    | some as =>
      cases hC : mapO (capB s) cap with
      | none => exact .inl fun _ _ => rfl
      | some cs =>
        simp only [Option.bind_some]
        rcases hO g (as ++ cs) [] with h | ⟨v, s1, hr, h⟩
        · exact .inl fun _ _ => h _ _
        · simp only [h]
          by_cases hn : ((args ++ cap).all isImm || (noL3 v && s1.all blkNoL)) = true
          · simp only [hn, if_true]
            cases mu with
            | true => exact .inr ⟨_, _, borrow_run (rt := rt) hA hC hr hn (.inl ⟨(), rfl, rfl⟩), fun _ _ => rfl⟩
            | false =>
              simp only [Bool.false_eq_true, if_false]
              cases hf : frz T s1 rt v with
              | none => exact .inl fun _ _ => rfl
              | some u => exact .inr ⟨u, s, borrow_run (rt := rt) hA hC hr hn (.inr ⟨hf, rfl⟩), fun _ _ => rfl⟩
          · exact .inl fun _ _ => by simp only [hn, if_false, Bool.false_eq_true]
  | sub =>
    simp only
    by_cases hd : (addNew [] ((args ++ cap).flatMap id3)).all (fun i => isData s[i]?) = true
    · simp only [hd, if_true]
      rcases hO g ((args ++ cap).map (ren3 (posOf (addNew [] ((args ++ cap).flatMap id3))))) ((addNew [] ((args ++ cap).flatMap id3)).map fun i => (s[i]?).getD .dead) with h | ⟨v, s1, hr, h⟩
      · exact .inl fun _ _ => h _ _
      · simp only [h]
        by_cases hl : (addNew [] ((args ++ cap).flatMap id3)).length ≤ s1.length
        · simp only [hl, if_true]
          exact .inr ⟨_, _, sub_run (addNew_nodup (by simp)) hd (fun _ => rfl) hr hl, fun _ _ => rfl⟩
        · exact .inl fun _ _ => by simp only [hl, if_false]
    · exact .inl fun _ _ => by simp only [hd, if_false, Bool.false_eq_true]
  | whole =>
    simp only
    rcases hO g (args ++ cap) s with h | ⟨v, s1, hr, h⟩
    · exact .inl h
    · exact .inr ⟨v, s1, hr, h⟩

end
end Go.Ev

/-
  REGIONS: operations one after another.
-/
namespace Go.Ev

/-! ### environments -/

theorem lk_up : ∀ (e : Env) (t : Nat) (v : AV) (u : Nat), lk (up e t v) u = if t = u then v else lk e u
  | [], t, v, u => by simp [up, lk]
  | (k, w) :: r, t, v, u => by
    simp only [up]
    split
    · rename_i hk
      subst hk
      simp only [lk]
      split <;> rfl
    · rename_i hk
      split
      · simp only [lk]
      · simp only [lk, lk_up r t v u]
        by_cases h1 : k = u
        · subst h1
          simp [Ne.symm hk]
        · simp [h1]

theorem lk_forget (keep : List Tmp) : ∀ (e : Env) (t : Nat), lk (forget keep e) t = lk e t ∨ lk (forget keep e) t = .any
  | [], t => .inl rfl
  | (k, w) :: r, t => by
    unfold forget
    simp only [List.filter_cons]
    split
    · rename_i hk
      simp only [lk]
      split
      · exact .inl rfl
      · exact lk_forget keep r t
    · rename_i hk
      by_cases h : k = t
      · subst h
        right
        have : ∀ r : Env, lk (forget keep r) k = .any := by
          intro r
          induction r with
          | nil => rfl
          | cons p r ih =>
            unfold forget
            simp only [List.filter_cons]
            split
            · rename_i hp
              simp only [lk]
              split
              · rename_i e
                rw [e] at hp; exact absurd hp hk
              · exact ih
            · exact ih
        exact this r
      · have := lk_forget keep r t
        simp only [lk, h, if_false]
        exact this

theorem lk_filter_ne (t : Nat) : ∀ (e : Env) (u : Nat), lk (e.filter fun p => p.1 != t) u = lk e u ∨ lk (e.filter fun p => p.1 != t) u = .any
  | [], u => .inl rfl
  | (k, w) :: r, u => by
    simp only [List.filter_cons]
    split
    · simp only [lk]
      split
      · exact .inl rfl
      · exact lk_filter_ne t r u
    · rename_i hk
      simp only [bne_iff_ne, ne_eq, Decidable.not_not] at hk
      by_cases h : k = u
      · subst h
        right
        have : ∀ r : Env, lk (r.filter fun p => p.1 != t) k = .any := by
          intro r
          induction r with
          | nil => rfl
          | cons p r ih =>
            simp only [List.filter_cons]
            split
            · rename_i hp
              simp only [bne_iff_ne] at hp
              simp only [lk]
              split
              · rename_i e; exact absurd (e.trans hk) hp
              · exact ih
            · exact ih
        exact this r
      · simp only [lk, h, if_false]
        exact lk_filter_ne t r u

theorem lk_map (f : AV → AV) (hf : f .any = .any) : ∀ (e : Env) (t : Nat), lk (e.map fun p => (p.1, f p.2)) t = f (lk e t)
  | [], t => hf.symm
  | (k, w) :: r, t => by
    simp only [List.map_cons, lk]
    split
    · rfl
    · exact lk_map f hf r t

section
variable {P : Program} {T : Tab} {c c' : Cx} {a : Act} {e : Env}

theorem RepE.ext (hi : Inv c) (h : Ext c c') (he : RepE c e a.tmps) : RepE c' e a.tmps := fun t => Rep3.ext hi h (he t)

theorem RepE.weak {e' : Env} (h : ∀ t, lk e' t = lk e t ∨ lk e' t = .any) (he : RepE c e a.tmps) : RepE c e' a.tmps := fun t => by
  rcases h t with h | h
  · rw [h]; exact he t
  · rw [h]; trivial

theorem RepE.put {d : Option Tmp} {v : AV} {x : Value} (he : RepE c e a.tmps) (hd : ∀ t, d = some t → t < a.tmps.size) (hv : Rep3 c v x) : RepE c (putV e d v) (a.put d x).tmps := by
  cases d with
  | none => exact he
  | some d =>
    intro t
    simp only [putV, Act.put, lk_up]
    have hd := hd d rfl
    split
    · rename_i e
      subst e
      simpa [hd] using hv
    · rename_i hne
      have := he t
      simpa [Array.getElem?_setIfInBounds_ne hne] using this

theorem RepE.up_same {d : Nat} {v : AV} (he : RepE c e a.tmps) (h : lk e d = v) : RepE c (up e d v) a.tmps := fun t => by
  rw [lk_up]
  split
  · rename_i e'; subst e'; rw [← h]; exact he d
  · exact he t

theorem put_size (a : Act) (d : Option Tmp) (x : Value) : (a.put d x).tmps.size = a.tmps.size := by
  cases d <;> simp [Act.put]

theorem put_defers (a : Act) (d : Option Tmp) (x : Value) : (a.put d x).defers = a.defers := by
  cases d <;> rfl

/-- an operation's effect on the machine -/
def OpRun (P : Program) (o : Oper) (e : Env) (s : Store) (v : AV) (s' : Store) : Prop :=
  ∀ (a : Act) (c : Cx), c.s = s → Inv c → RepE c e a.tmps → ∀ (K : Act → World → Prop) (Q : Exit → Act → World → Prop),
    (∀ (c' : Cx) (x : Value), c'.s = s' → Inv c' → Ext c c' → Rep3 c' v x → K (a.put o.dst x) c'.w) → o.wp P a c.w K Q

theorem Done.run {o : Oper} {v : AV} {s' : Store} (h : Done P a o c v s') (K : Act → World → Prop) (Q : Exit → Act → World → Prop)
    (hK : ∀ (c' : Cx) (x : Value), c'.s = s' → Inv c' → Ext c c' → Rep3 c' v x → K (a.put o.dst x) c'.w) : o.wp P a c.w K Q := by
  obtain ⟨n, x, c', h1, h2, h3, h4, h5, h6⟩ := h
  unfold Oper.wp
  rw [h1]
  rcases h2 with rfl | ⟨rfl, rfl⟩
  · rw [Oper.upon_value]; exact hK c' x h3 h4 h5 h6
  · rw [Oper.upon_skip]; exact hK c' undef h3 h4 h5 h6

theorem run_callFunc {g : FuncId} (hk : Known P g) (xs : Array Value) (w : World) : (callFunc g xs).run P w = .ok (.enter g xs) w := by
  obtain ⟨fn, b, h1, h2, h3⟩ := hk
  simp [callFunc, go_sem, h1, h2]
  simpa using h3

theorem call_run {o : Oper} {cl : Call} {f : Operand} {g : FuncId} {cap : List AV} {s s' : Store} {v : AV} (ho : o.op = .call cl) (hc : cl.callee = .value f) (hf : opnd T 0 e f = .fn g cap) (hsz : cl.args.size = cl.argTypes.size)
    (hs : SemCall P g (((cl.args.toList.zip cl.argTypes.toList).map fun p => opnd T p.2 e p.1) ++ cap) s v s') : OpRun P o e s v s' := by
  intro a c hcs hi he K Q hK
  have hrun := hs
  have hfv := opnd_rep (T := T) (t := 0) he f
  rw [hf] at hfv
  obtain ⟨vs, h1, h2⟩ := hfv
  have hx : (execOp a.eval o).run P c.w = (callFunc g ((cl.args.map a.eval) ++ vs.toArray)).run P c.w := by
    obtain ⟨dst, op, type, pos, after, guard⟩ := o
    simp only at ho
    subst ho
    simp only [execOp, resolve, hc, h1, Deferred.ofValue, Sem.run_bind, Sem.run_pure, Result.andThen_ok, invoke, Array.empty_append]
  have hargs := hrun c ((cl.args.map a.eval) ++ vs.toArray) hcs hi (by
    simp only [Array.toList_append, Array.toList_map, List.toList_toArray]
    exact (zip_rep he _ _ (by simpa using hsz)).append (h2.mono fun _ _ h => Rep3_of2 (Rep2_of1 h)))
  unfold Oper.wp
  rw [hx]
  rcases hargs with ⟨hkn, hcall⟩ | ⟨y, w', hr, y', c', he', rfl, k1, k2, k3, k4⟩
  · rw [run_callFunc hkn, Oper.upon_enter]
    refine Calls.mono hcall ?_
    rintro en w' ⟨y, c', rfl, rfl, k1, k2, k3, k4⟩
    exact hK c' y k1 k2 k3 k4
  · rw [hr, Oper.upon_value]
    cases he'
    exact hK c' y k1 k2 k3 k4

theorem opK_sound (hT : TabOk P T) (H : Hint) (M : FuncId → Mode) {O : Oracle} (hO : OracleOk P O) (o : Oper) (e : Env) (s : Store) :
    (∀ (γ : Type) (k : AV → Store → Option γ), opK T H M O o e s k = none) ∨ ∃ v s', OpRun P o e s v s' ∧ ∀ (γ : Type) (k : AV → Store → Option γ), opK T H M O o e s k = k v s' := by
  -- what is no call
  have plain : (∀ (γ : Type) (k : AV → Store → Option γ), ((opV T H o e s).bind fun x => k x.1 x.2) = none) ∨ ∃ v s', OpRun P o e s v s' ∧ ∀ (γ : Type) (k : AV → Store → Option γ), ((opV T H o e s).bind fun x => k x.1 x.2) = k v s' := by
    cases h : opV T H o e s with
    | none => exact .inl fun _ _ => rfl
    | some y =>
      obtain ⟨v, s'⟩ := y
      refine .inr ⟨v, s', fun a c hcs hi he K Q hK => ?_, fun _ _ => rfl⟩
      subst hcs
      exact (opV_done hT H hi he h).run K Q hK
  unfold opK
  cases ho : o.op with
  | call cl =>
    simp only
    cases hc : cl.callee with
    | value f =>
      simp only
      cases hf : opnd T 0 e f with
      | fn g cap =>
        simp only
        by_cases hsz : cl.args.size = cl.argTypes.size
        · simp only [hsz, if_true]
          rcases callV_sound (T := T) hO M (muOf H o.dst) o.type g cl.argTypes.toList ((cl.args.toList.zip cl.argTypes.toList).map fun p => opnd T p.2 e p.1) cap s with h | ⟨v, s', h1, h2⟩
          · exact .inl h
          · exact .inr ⟨v, s', call_run ho hc hf hsz h1, h2⟩
        · exact .inl fun _ _ => by simp only [hsz, if_false]
      | _ => exact .inl fun _ _ => rfl
    | builtin b => exact plain
    | invoke r n => exact plain
  | _ => exact plain

/-! ### where a run stands -/

/-- the machine against the evaluator, since the call began at c0 -/
structure At (c0 : Cx) (n : Nat) (st : St) (c : Cx) (a : Act) : Prop where
  s : c.s = st.s
  inv : Inv c
  ext : Ext c0 c
  env : RepE c st.env a.tmps
  size : a.tmps.size = n
  defers : a.defers = []

theorem At.step {c0 : Cx} {n : Nat} {st : St} (h : At c0 n st c a) {d : Option Tmp} {v : AV} {s' : Store} {x : Value} (hd : ∀ t, d = some t → t < n) (h1 : c'.s = s') (h2 : Inv c') (h3 : Ext c c') (h4 : Rep3 c' v x) : At c0 n ⟨putV st.env d v, s'⟩ c' (a.put d x) :=
  ⟨h1, h2, h.ext.trans h3, (h.env.ext h.inv h3).put (by rw [h.size]; exact hd) h4, by rw [put_size]; exact h.size, by rw [put_defers]; exact h.defers⟩

theorem At.skip {c0 : Cx} {n : Nat} {st : St} (h : At c0 n st c a) {d : Option Tmp} (hd : ∀ t, d = some t → t < n) : At c0 n ⟨putV st.env d (.tup []), st.s⟩ c (a.put d undef) :=
  h.step hd h.s h.inv (Ext.refl c) ⟨[], rfl, trivial⟩

theorem At.weak {c0 : Cx} {n : Nat} {st : St} {e' : Env} (h : At c0 n st c a) (he : ∀ t, lk e' t = lk st.env t ∨ lk e' t = .any) : At c0 n ⟨e', st.s⟩ c a :=
  ⟨h.s, h.inv, h.ext, h.env.weak he, h.size, h.defers⟩

/-- what the guard says -/
theorem wantV_sound {ops : Array Oper} {o : Oper} {w : Bool × Env × Env} (he : RepE c e a.tmps) (h : wantV ops o e = some w) :
    Region.wanted o (yielded ops a.tmps) = w.1 ∧ (w.1 = true → ∀ t, lk w.2.1 t = lk e t) ∧ (w.1 = false → ∀ t, lk w.2.2 t = lk e t) := by
  unfold wantV at h
  unfold Region.wanted
  split at h
  · rename_i hg
    simp only [Option.some.injEq] at h
    subst h
    simp [hg]
  · rename_i j want hg
    rw [hg]
    simp only
    split at h
    · rename_i d hd
      have hy : ∀ y, a.tmps.getD d undef = y → yielded ops a.tmps j = match y with | .bool b => some b | _ => none := fun y hy => by
        unfold yielded
        rw [hd]
        simp only [Option.bind_some]
        rw [Array.getD_eq_getD_getElem?] at hy
        cases ht : a.tmps[d]? with
        | none => rw [ht] at hy; simp only [Option.getD_none] at hy; subst hy; rfl
        | some z => rw [ht] at hy; simp only [Option.getD_some] at hy; subst hy; cases z <;> rfl
      have hr := he d
      split at h
      · rename_i b hb
        rw [hb] at hr
        simp only [Option.some.injEq] at h
        subst h
        rw [hy _ hr.bool]
        refine ⟨by cases b <;> cases want <;> rfl, fun hw t => ?_, fun hw t => ?_⟩
        · simp only [lk_up]
          split
          · rename_i e'; subst e'; rw [hb]; cases b <;> cases want <;> simp_all
          · rfl
        · simp only [lk_up]
          split
          · rename_i e'; subst e'; rw [hb]; cases b <;> cases want <;> simp_all
          · rfl
      · rename_i hb
        rw [hb] at hr
        simp only [Option.some.injEq] at h
        subst h
        obtain ⟨xs, h1, h2⟩ := hr
        rw [hy _ h1]
        simp
      · cases h
    · cases h

/-- a slice against nil: one of the two answers, and no slice with elements is nil -/
theorem nil_run (hT : TabOk P T) {o : Oper} {e : Env} {s : Store} {neg em : Bool} (h : nilArg T o e = some (neg, em)) {a : Act} {c : Cx} (he : RepE c e a.tmps) :
    ∃ b : Bool, (em = false → b = false) ∧ (execOp a.eval o).run P c.w = .ok (.value (.bool (b != neg))) c.w := by
  obtain ⟨dst, op, type, pos, after, guard⟩ := o
  unfold nilArg at h
  dsimp only at h
  split at h
  · rename_i bo t x _
    split at h
    · rename_i A B xs hA hx
      have hr := opnd_rep (T := T) (t := t) he x
      rw [hx] at hr
      obtain ⟨cs, h1, h2⟩ := hr
      simp only [Ty.isAgg, Bool.false_eq_true, if_false] at h1
      subst h1
      simp only [RepC] at h2
      obtain ⟨base, cap, h3, _, h4⟩ := h2
      simp only [List.cons.injEq, and_true] at h3
      obtain ⟨el, hu, _, _⟩ := (hT t _ hA).sl
      have heq' : ∀ d, (Op.equalIn (d + 1) t (.slice base xs.length cap) (.slice none 0 0)).run P c.w = .ok base.isNone c.w := fun d => by
        unfold Op.equalIn
        simp only [Sem.run_bind, run_underlying hu, Result.andThen_ok]
        cases base <;> simp
      have heq : (Op.equal t (.slice base xs.length cap) (.slice none 0 0)).run P c.w = .ok base.isNone c.w := heq' 9999
      have hg : ∀ (b : BinOp), (eqGuard b t x (.const (.slice none 0 0)) (.slice base xs.length cap) (.slice none 0 0)).run P c.w = .ok () c.w := fun b => by
        unfold eqGuard
        cases b <;> simp
      have hem : xs.isEmpty = false → base.isNone = false := fun h => by
        have hne : xs ≠ [] := fun e => by rw [e] at h; cases h
        obtain ⟨b, o', _, _, _, rfl, _⟩ := h4 hne
        rfl
      split at h
      · simp only [Option.some.injEq, Prod.mk.injEq] at h
        obtain ⟨rfl, rfl⟩ := h
        refine ⟨base.isNone, hem, ?_⟩
        simp only [execOp, Sem.run_bind, Act.eval] at *
        rw [h3]
        simp only [hg, Result.andThen_ok, binOp, Sem.run_bind, heq, Sem.run_pure]
        simp
      · simp only [Option.some.injEq, Prod.mk.injEq] at h
        obtain ⟨rfl, rfl⟩ := h
        refine ⟨base.isNone, hem, ?_⟩
        simp only [execOp, Sem.run_bind, Act.eval] at *
        rw [h3]
        simp only [hg, Result.andThen_ok, binOp, Sem.run_bind, heq, Sem.run_pure]
        cases base.isNone <;> simp
      · cases h
    · cases h
  · cases h

theorem opN_sound (hT : TabOk P T) (H : Hint) (M : FuncId → Mode) {O : Oracle} (hO : OracleOk P O) (o : Oper) (e : Env) (s : Store) {γ : Type} {k : AV → Store → Option γ} {r : γ} (h : opN T H M O o e s k = some r)
    {a : Act} {c : Cx} (hcs : c.s = s) (hi : Inv c) (he : RepE c e a.tmps) {K : Act → World → Prop} {Q : Exit → Act → World → Prop}
    (hK : ∀ (v : AV) (s' : Store), k v s' = some r → ∀ (c' : Cx) (x : Value), c'.s = s' → Inv c' → Ext c c' → Rep3 c' v x → K (a.put o.dst x) c'.w) : o.wp P a c.w K Q := by
  unfold opN at h
  split at h
  · rename_i neg em hn
    obtain ⟨b, hb, hrun⟩ := nil_run (P := P) hT (s := s) hn he
    have hk : k (.d .bool (b != neg)) s = some r := by
      cases em with
      | false =>
        obtain rfl := hb rfl
        simpa using h
      | true =>
        simp only [cond_true] at h
        obtain ⟨h1, h2⟩ := both_some h
        cases b <;> cases neg <;> first | exact h1 | exact h2
    subst hcs
    exact (Done.pure hi (v := .d .bool (b != neg)) hrun (rep_bool c _)).run K Q fun c' x h1 h2 h3 h4 => hK _ _ hk c' x h1 h2 h3 h4
  · rcases opK_sound hT H M hO o e s with hn | ⟨v, s', hrun, hk⟩
    · rw [hn] at h; cases h
    · rw [hk] at h
      exact hrun a c hcs hi he K Q fun c' x h1 h2 h3 h4 => hK v s' h c' x h1 h2 h3 h4

theorem runOps_sound (hT : TabOk P T) (H : Hint) (M : FuncId → Mode) {O : Oracle} (hO : OracleOk P O) {c0 : Cx} {n : Nat} {ops : Array Oper} {Q : Exit → Act → World → Prop} {γ : Type} {k : St → Option γ} {r : γ}
    (hQ : ∀ st c a, At c0 n st c a → k st = some r → Q .normal a c.w) : ∀ (os : List Oper) (l : List Nat), All2 (fun o i => ops[i]? = some o) os l → (∀ o ∈ os, ∀ t, o.dst = some t → t < n) →
    ∀ (st : St) (c : Cx) (a : Act), At c0 n st c a → runOps T H M O ops os st k = some r → wpOps P ops Q l a c.w
  | [], [], _, _, st, c, a, h, hr => hQ st c a h hr
  | o :: os, i :: l, hl, hd, st, c, a, h, hr => by
    have ih := runOps_sound hT H M hO hQ os l hl.2 (fun o ho => hd o (List.mem_cons_of_mem _ ho))
    have hdo := hd o List.mem_cons_self
    simp only [runOps] at hr
    obtain ⟨w, h1, h2⟩ := Option.bind_eq_some_iff.mp hr
    obtain ⟨k1, k2, k3⟩ := wantV_sound h.env h1
    simp only [wpOps, hl.1, k1]
    cases hw : w.1 with
    | true =>
      rw [hw] at h2
      simp only [cond_true] at h2
      have hat : At c0 n ⟨w.2.1, st.s⟩ c a := h.weak fun t => .inl (k2 hw t)
      simp only [if_true]
      refine .inl (opN_sound hT H M hO o w.2.1 st.s h2 h.s h.inv hat.env fun v s' hk c' x m1 m2 m3 m4 => ?_)
      exact ih _ c' _ (hat.step hdo m1 m2 m3 m4) hk
    | false =>
      rw [hw] at h2
      simp only [cond_false] at h2
      have hat : At c0 n ⟨w.2.2, st.s⟩ c a := h.weak fun t => .inl (k3 hw t)
      simp only [Bool.false_eq_true, if_false]
      exact ih _ c _ (hat.skip hdo) h2
  | [], _ :: _, hl, _, _, _, _, _, _ => hl.elim
  | _ :: _, [], hl, _, _, _, _, _, _ => hl.elim

end
end Go.Ev

/-
  OPERATIONS THAT LEAVE THE STORE ALONE: they do the same in a longer one.
-/
namespace Go.Ev

/-- what is alive in the one stands so in the other -/
def Agrees (s t : Store) : Prop := ∀ (i : Nat) (bk : Blk), s[i]? = some bk → bk ≠ .dead → t[i]? = some bk

theorem Agrees.app (s b : Store) : Agrees s (s ++ b) := fun i bk h _ => by
  rw [List.getElem?_append_left (List.getElem?_eq_some_iff.mp h).1]; exact h

theorem Agrees.nil (t : Store) : Agrees [] t := fun i bk h => by simp at h

section
variable {T : Tab} {s t' : Store} (b : Agrees s t')
include b

theorem lenV_app {v : AV} {n : Nat} (h : lenV s v = some n) : lenV t' v = some n := by
  cases v with
  | all id =>
    simp only [lenV] at h ⊢
    cases hs : s[id]? with
    | none => rw [hs] at h; cases h
    | some x =>
      have hx : x ≠ .dead := fun e => by subst e; rw [hs] at h; cases h
      rw [b _ x hs hx]; rw [hs] at h; exact h
  | ref id o l t =>
    simp only [lenV] at h ⊢
    cases hs : s[id]? with
    | none => rw [hs] at h; cases h
    | some x =>
      have hx : x ≠ .dead := fun e => by subst e; rw [hs] at h; cases h
      rw [b _ x hs hx]; rw [hs] at h; exact h
  | d t v => cases t <;> first | exact h | cases h
  | e0 t => exact h
  | _ => cases h

theorem lenSl_app {v : AV} {n : Nat} (h : lenSl s v = some n) : lenSl t' v = some n := by
  unfold lenSl at h ⊢
  split at h
  · cases h
  · exact lenV_app b h

theorem okSz_app {id n : Nat} (h : okSz s id n = true) : okSz t' id n = true := by
  unfold okSz at h ⊢
  cases hs : s[id]? with
  | none => rw [hs] at h; cases h
  | some x =>
    have hx : x ≠ .dead := fun e => by subst e; rw [hs] at h; cases h
    rw [b _ x hs hx]; rw [hs] at h; exact h

theorem liveB_app {id : Nat} (h : liveB s id = true) : liveB t' id = true := by
  unfold liveB at h ⊢
  cases hs : s[id]? with
  | none => rw [hs] at h; cases h
  | some x =>
    have hx : x ≠ .dead := fun e => by subst e; rw [hs] at h; cases h
    rw [b _ x hs hx]; rw [hs] at h; exact h

theorem partPtr_app {o : Nat} {v u : AV} (h : partPtr s o v = some u) : partPtr t' o v = some u := by
  cases v with
  | ptr i j g =>
    simp only [partPtr] at h ⊢
    split at h
    · rename_i hl
      rw [if_pos (liveB_app b hl)]; exact h
    · cases h
  | cptr t v f => exact h
  | _ => cases h

theorem loadV_app {t : Ty} {v u : AV} (h : loadV s t v = some u) : loadV t' t v = some u := by
  cases v with
  | ptr i j g =>
    simp only [loadV] at h ⊢
    cases hs : s[i]? with
    | none => rw [hs] at h; cases h
    | some x =>
      have hx : x ≠ .dead := fun e => by subst e; rw [hs] at h; cases h
      rw [b _ x hs hx]; rw [hs] at h; exact h
  | cptr t v f => exact h
  | _ => cases h

theorem elemPtr_app {n : Nat} {v u : AV} (h : elemPtr s v n = some u) : elemPtr t' v n = some u := by
  cases v with
  | all id =>
    simp only [elemPtr] at h ⊢
    obtain ⟨m, h1, h2⟩ := Option.bind_eq_some_iff.mp h
    rw [lenV_app b h1]; exact h2
  | d t v => cases t <;> first | exact h | cases h
  | ref id o l t => exact h
  | _ => cases h

theorem eltOk_app {A : Ty} {v : AV} (h : eltOk s A v = true) : eltOk t' A v = true := by
  cases v with
  | all id => exact okSz_app b h
  | ref id o l t => exact okSz_app b h
  | d t v => cases t <;> first | exact h | cases h
  | _ => cases h

theorem cutS_app {A : Ty} {v u : AV} {l h : Option Nat} (hh : cutS A s v l h = some u) : cutS A t' v l h = some u := by
  cases v with
  | all id =>
    simp only [cutS] at hh ⊢
    split at hh
    · rename_i ho
      rw [if_pos (okSz_app b ho)]
      obtain ⟨m, h1, h2⟩ := Option.bind_eq_some_iff.mp hh
      rw [lenV_app b h1]; exact h2
    · cases hh
  | ref id o ln t =>
    simp only [cutS] at hh ⊢
    split at hh
    · rename_i ho
      rw [if_pos (okSz_app b ho)]
      obtain ⟨m, h1, h2⟩ := Option.bind_eq_some_iff.mp hh
      rw [lenV_app b h1]; exact h2
    · cases hh
  | d t v => cases t <;> first | exact hh | cases hh
  | e0 t => exact hh
  | _ => cases hh

theorem cutV_app {mu : Bool} {A : Ty} {v u : AV} {lo hi mx : Option AV} (h : cutV mu A s v lo hi mx = some u) : cutV mu A t' v lo hi mx = some u := by
  unfold cutV at h ⊢
  obtain ⟨l, h1, h⟩ := Option.bind_eq_some_iff.mp h
  obtain ⟨r, h2, h⟩ := Option.bind_eq_some_iff.mp h
  obtain ⟨m, h3, h⟩ := Option.bind_eq_some_iff.mp h
  rw [h1, Option.bind_some, h2, Option.bind_some, h3, Option.bind_some]
  cases A with
  | sl A =>
    cases m with
    | none => exact cutS_app b h
    | some m =>
      simp only at h ⊢
      obtain ⟨n, h4, h⟩ := Option.bind_eq_some_iff.mp h
      rw [lenSl_app b h4]; exact h
  | _ => cases m <;> exact h

omit b in
theorem mapO_imp {α β : Type} {f g : α → Option β} (h : ∀ a b, f a = some b → g a = some b) : ∀ {xs : List α} {ys : List β}, mapO f xs = some ys → mapO g xs = some ys
  | [], _, hh => hh
  | x :: xs, ys, hh => by
    simp only [mapO] at hh ⊢
    obtain ⟨y, h1, h2⟩ := Option.bind_eq_some_iff.mp hh
    obtain ⟨r, h3, h4⟩ := Option.map_eq_some_iff.mp h2
    rw [h _ _ h1, Option.bind_some, mapO_imp h h3]
    simpa using h4

theorem snapC_app : ∀ {t : Ty} {vs : List AV} {v : t.D}, snapC s t vs = some v → snapC t' t vs = some v
  | .cons h t, vs, v, hh => by
    simp only [snapC] at hh ⊢
    obtain ⟨x, h1, h2⟩ := Option.bind_eq_some_iff.mp hh
    obtain ⟨y, h3, h4⟩ := Option.map_eq_some_iff.mp h2
    rw [snapC_app h1, Option.bind_some, snapC_app h3]
    simpa using h4
  | .nil, vs, v, hh => hh
  | .bool, vs, v, hh => hh
  | .int _, vs, v, hh => hh
  | .str, vs, v, hh => hh
  | .sl t, vs, v, hh => by
    match vs, hh with
    | [.d a x], hh => exact hh
    | [.e0 a], hh => exact hh
    | [.all id], hh =>
      simp only [snapC] at hh ⊢
      cases hs : s[id]? with
      | none => rw [hs] at hh; cases hh
      | some x =>
        rw [hs] at hh
        cases x with
        | dead => cases hh
        | data a xs => rw [b id _ hs (by simp)]; exact hh
        | node sz xs => rw [b id _ hs (by simp)]; exact mapO_imp (fun a y h => snapC_app h) hh
        | deep _ _ l9 => rw [b id _ hs (by simp)]; cases l9 <;> exact hh
    | [.ref id o l tg], hh =>
      simp only [snapC] at hh ⊢
      cases hs : s[id]? with
      | none => rw [hs] at hh; cases hh
      | some x =>
        rw [hs] at hh
        cases x with
        | dead => cases hh
        | data a xs => rw [b id _ hs (by simp)]; exact hh
        | node sz xs => rw [b id _ hs (by simp)]; exact mapO_imp (fun a y h => snapC_app h) hh
        | deep _ _ l9 => rw [b id _ hs (by simp)]; cases l9 <;> exact hh

theorem snap_app {t : Ty} {v : AV} {u : t.D} (h : snap s t v = some u) : snap t' t v = some u := by
  cases v with
  | d t' v => exact h
  | _ =>
    simp only [snap] at h ⊢
    split at h
    · rename_i ht
      first | cases h | (rw [if_pos ht]; exact snapC_app b h)
    · rename_i ht
      first | cases h | (rw [if_neg ht]; exact snapC_app b h)

theorem capB_app {v u : AV} (h : capB s v = some u) : capB t' v = some u := by
  cases v with
  | ptr i j g =>
    simp only [capB] at h ⊢
    cases hs : s[i]? with
    | none => rw [hs] at h; cases h
    | some x =>
      have hx : x ≠ .dead := fun e => by subst e; rw [hs] at h; cases h
      rw [b _ x hs hx]; rw [hs] at h; exact h
  | d t v => exact h
  | cptr t v f => exact h
  | _ => cases h

theorem argB_app {t : TypeId} {v u : AV} (h : argB T s t v = some u) : argB T t' t v = some u := by
  have gen : ∀ v : AV, ((T.ty t).bind fun a => (snap s a v).map (.d a)) = some u → ((T.ty t).bind fun a => (snap t' a v).map (.d a)) = some u := by
    intro v h
    obtain ⟨A, h1, h2⟩ := Option.bind_eq_some_iff.mp h
    obtain ⟨y, h3, h4⟩ := Option.map_eq_some_iff.mp h2
    rw [h1, Option.bind_some, snap_app b h3]
    simpa using h4
  cases v with
  | fn f cap =>
    simp only [argB] at h ⊢
    obtain ⟨r, h1, h2⟩ := Option.map_eq_some_iff.mp h
    rw [mapO_imp (fun a y h => capB_app b h) h1]
    simpa using h2
  | cptr t v f => exact h
  | ptr i j g => exact capB_app (v := .ptr i j g) b h
  | _ => exact gen _ h

theorem argsB_app : ∀ {ts : List TypeId} {vs us : List AV}, argsB T s ts vs = some us → argsB T t' ts vs = some us
  | [], [], _, h => h
  | t :: ts, v :: vs, us, h => by
    simp only [argsB] at h ⊢
    obtain ⟨y, h1, h2⟩ := Option.bind_eq_some_iff.mp h
    obtain ⟨r, h3, h4⟩ := Option.map_eq_some_iff.mp h2
    rw [argB_app b h1, Option.bind_some, argsB_app h3]
    simpa using h4
  | [], _ :: _, _, h => by simp [argsB] at h
  | _ :: _, [], _, h => by simp [argsB] at h

end
end Go.Ev

/-
  QUIET OPERATIONS; and that an operation looks at its operands alone.
-/
namespace Go.Ev

section
variable {T : Tab} {H : Hint} {M : FuncId → Mode} {O : Oracle} {e : Env} {s : Store}

theorem moveV_false (s : Store) (v : AV) : moveV false s v = (v, s) := by
  cases v <;> rfl

theorem mkRow_false (s : Store) (t : Ty) (xs : List t.D) : mkRow false s t xs = (.d (.sl t) xs, s) := rfl

/-- at a longer store the same -/
def Keeps (f : Store → Option (AV × Store)) (s : Store) : Prop := ∀ v s', f s = some (v, s') → s' = s ∧ ∀ t, Agrees s t → f t = some (v, t)

theorem Keeps.pu {f : Store → Option AV} (h : ∀ v t, Agrees s t → f s = some v → f t = some v) : Keeps (fun s => (f s).map fun v => (v, s)) s := by
  intro v s' hh
  obtain ⟨h1, rfl⟩ := pu_left hh
  exact ⟨rfl, fun t b => by simp only [h v t b h1, Option.map_some]⟩

theorem Keeps.bind {α : Type} {x : Option α} {f : α → Store → Option (AV × Store)} (h : ∀ a, x = some a → Keeps (f a) s) : Keeps (fun s => x.bind fun a => f a s) s := by
  intro v s' hh
  obtain ⟨a, h1, h2⟩ := Option.bind_eq_some_iff.mp hh
  obtain ⟨k1, k2⟩ := h a h1 v s' h2
  exact ⟨k1, fun t b => by simp only [h1, Option.bind_some, k2 t b]⟩

theorem Keeps.const {x : Option AV} : Keeps (fun s => x.map fun v => (v, s)) s := Keeps.pu (f := fun _ => x) fun _ _ _ h => h

theorem Keeps.some {v : AV} : Keeps (fun s => some (v, s)) s := Keeps.const (x := Option.some v)

theorem Keeps.none : Keeps (fun _ => none) s := fun _ _ h => by cases h

theorem slOf_false (a : Ty) : slOf false a = none := by cases a <;> rfl

theorem mkMake_false (s : Store) (t : Ty) (n : Nat) : mkMake false s t n = (.d (.sl t) (List.replicate n t.zero), s) := by
  simp only [mkMake, slOf_false, mkRow_false]

theorem mkVar_keeps (a : Ty) (v : AV) : Keeps (fun s => mkVar false s a v) s := by
  have : (fun s => mkVar false s a v) = fun s => ((allD a v.cells).map fun x => AV.cptr a x 0).map fun v => (v, s) := by
    funext s
    simp only [mkVar, Bool.false_eq_true, if_false, Option.map_map]
    rfl
  rw [this]
  exact Keeps.const

theorem opV_quiet (o : Oper) (hq : quietOp H M o = true) (hc : ∀ c f, o.op = .call c → c.callee ≠ .value f) : Keeps (fun s => opV T H o e s) s := by
  obtain ⟨dst, op, type, pos, after, guard⟩ := o
  simp only [quietOp] at hq
  have : (fun s => opV T H ⟨dst, op, type, pos, after, guard⟩ e s) = fun s => opV T H ⟨dst, op, type, pos, after, guard⟩ e s := rfl
  dsimp only [opV]
  cases op <;> (try dsimp only) <;> simp only [reduceCtorEq, Bool.not_eq_true', Bool.false_eq_true] at hq
  case move x => simp only [hq, moveV_false]; exact Keeps.some
  case assign x => simp only [hq, moveV_false]; exact Keeps.some
  case pick k x y =>
    refine Keeps.bind fun t _ => ?_
    cases t
    · exact Keeps.some
    · exact Keeps.some
  case alloc t =>
    simp only [hq, Bool.false_eq_true, if_false]
    exact Keeps.bind fun a _ => mkVar_keeps a _
  case box t x =>
    simp only [hq]
    refine Keeps.bind fun a _ => ?_
    split
    · exact mkVar_keeps a _
    · exact Keeps.none
  case build t ps => exact Keeps.bind fun a _ => Keeps.bind fun cs _ => Keeps.const
  case buildSlice t n ps =>
    simp only [hq, Bool.false_eq_true, if_false, mkRow_false, slOf_false, Option.isSome_none]
    cases T.ty t with
    | none => exact Keeps.none
    | some A =>
      cases A with
      | sl A =>
        simp only
        split
        · split
          · exact Keeps.some
          · exact Keeps.none
        · split
          · cases setAll A (ps.toList.map fun p => (p.1, opnd T 0 e p.2)) (List.replicate n A.zero) with
            | none => exact Keeps.none
            | some xs => exact Keeps.some
          · exact Keeps.none
      | _ => exact Keeps.none
  case load t x =>
    simp only [hq, Bool.false_eq_true, if_false]
    exact Keeps.bind fun a _ => Keeps.pu fun v t b h => loadV_app b h
  case nilCheck x => exact Keeps.pu fun v t b h => partPtr_app b h
  case binOp op t x y _ => exact Keeps.const
  case unOp op t x =>
    cases op <;> (try exact Keeps.none) <;> (generalize opnd T 0 e x = y; cases y with
      | d τ v => cases τ <;> first | exact Keeps.none | exact Keeps.some
      | _ => exact Keeps.none)
  case convert t u x => exact Keeps.const
  case makeFunc fn first cap =>
    cases fn <;> try exact Keeps.none
    simp only
    split
    · exact Keeps.some
    · exact Keeps.none
  case makeSlice t l k =>
    simp only [hq, mkMake_false]
    cases T.ty t with
    | none => exact Keeps.none
    | some A =>
      cases A with
      | sl A =>
        simp only
        split
        · refine Keeps.bind fun n _ => ?_
          split
          · exact Keeps.some
          · exact Keeps.none
        · exact Keeps.none
      | _ => exact Keeps.none
  case slice t x lo hi' mx => exact Keeps.bind fun a _ => Keeps.pu fun v t b h => cutV_app b h
  case fieldAddr t x n => exact Keeps.bind fun a _ => Keeps.bind fun f _ => Keeps.pu fun v t b h => partPtr_app b h
  case field t x n =>
    refine Keeps.bind fun a _ => Keeps.bind fun f _ => ?_
    split
    · exact Keeps.const
    · exact Keeps.none
  case indexAddr t x i =>
    cases T.ty t with
    | none => exact Keeps.none
    | some A =>
      cases A with
      | sl A =>
        refine Keeps.bind fun n _ => ?_
        intro v s' hh
        dsimp only at hh
        split at hh
        · rename_i hok
          obtain ⟨h1, rfl⟩ := pu_left hh
          exact ⟨rfl, fun t b => by simp only [eltOk_app b hok, if_true, elemPtr_app b h1, Option.map_some]⟩
        · cases hh
      | _ => exact Keeps.none
  case index t x i =>
    generalize T.ty t = A
    generalize opnd T t e x = y
    cases A with
    | none => exact Keeps.none
    | some A =>
      cases A <;> (try exact Keeps.none) <;> (cases y with
        | d τ w => cases τ <;> first
          | exact Keeps.none
          | (refine Keeps.bind fun n _ => ?_
             cases (w : ByteArray)[n]? with
             | none => exact Keeps.none
             | some y => exact Keeps.some)
        | _ => exact Keeps.none)
  case extract x i =>
    cases opnd T 0 e x <;> try exact Keeps.none
    rename_i vs
    exact Keeps.const
  case call cl =>
    obtain ⟨callee, args, ats⟩ := cl
    cases callee with
    | value f => exact absurd rfl (hc _ f rfl)
    | invoke r n => exact Keeps.none
    | builtin b =>
      simp only at hq ⊢
      split
      · generalize (List.map (fun p => opnd T p.2 e p.1) (args.toList.zip ats.toList)) = as
        cases b <;> simp only [Bool.false_eq_true] at hq
        case len =>
          simp only [builtinV]
          cases ats.toList with
          | nil => exact Keeps.none
          | cons t r =>
            match as with
            | [] => exact Keeps.none
            | _ :: _ :: _ => exact Keeps.none
            | [x] =>
              simp only
              cases T.ty t with
              | none => exact Keeps.none
              | some A =>
                cases A <;> try exact Keeps.none
                · cases x <;> try exact Keeps.none
                  rename_i τ _
                  cases τ <;> first | exact Keeps.none | exact Keeps.some
                · intro v s' hh
                  simp only at hh
                  obtain ⟨n, h1, h2⟩ := Option.map_eq_some_iff.mp hh
                  obtain ⟨rfl, rfl⟩ := Prod.mk.inj h2
                  exact ⟨rfl, fun t b => by simp only [lenSl_app b h1, Option.map_some]⟩
        case min => simp only [builtinV]; exact Keeps.const
        case max => simp only [builtinV]; exact Keeps.const
      · exact Keeps.none

end
end Go.Ev

/-
  DRAWN REGIONS: whatever order is drawn, it comes to the same.
-/
namespace Go.Ev

section
variable {P : Program} {T : Tab} {H : Hint} {M : FuncId → Mode} {O : Oracle} {ops : Array Oper}

theorem opV_congr {e e' : Env} {o : Oper} (s : Store) (h : ∀ x ∈ o.op.operands, ∀ t, opnd T t e x = opnd T t e' x) : opV T H o e s = opV T H o e' s := by
  obtain ⟨dst, op, type, pos, after, guard⟩ := o
  have pairs : ∀ ps : Array (Nat × Operand), (∀ x ∈ (ps.toList.map (·.2)).toArray, ∀ t, opnd T t e x = opnd T t e' x) →
      (ps.toList.map fun p => (p.1, opnd T 0 e p.2)) = (ps.toList.map fun p => (p.1, opnd T 0 e' p.2)) := fun ps hp =>
    List.map_congr_left fun p hm => by
      simp only [hp p.2 (by simp only [List.mem_toArray]; exact List.mem_map.mpr ⟨p, hm, rfl⟩)]
  dsimp only [opV]
  cases op <;> simp only [Op.operands] at h <;> (try dsimp only)
  case build t ps => rw [pairs ps h]
  case buildSlice t n ps => rw [pairs ps h]
  case makeFunc fn first cap =>
    have : cap.toList.map (opnd T 0 e) = cap.toList.map (opnd T 0 e') := List.map_congr_left fun x hx => h x (by simp at hx ⊢; exact .inr hx) 0
    cases fn <;> simp only [this]
  case slice t x lo hi mx =>
    cases lo <;> cases hi <;> cases mx <;> simp at h <;> simp only [h, Option.map_some, Option.map_none]
  case call c =>
    have hargs : ((c.args.toList.zip c.argTypes.toList).map fun p => opnd T p.2 e p.1) = ((c.args.toList.zip c.argTypes.toList).map fun p => opnd T p.2 e' p.1) :=
      List.map_congr_left fun p hm => by
        have : p.1 ∈ c.args.toList := (List.of_mem_zip (a := p.1) (b := p.2) hm).1
        exact h p.1 (by simp only [Call.operands]; exact Array.mem_append.mpr (.inr (by simpa using this))) p.2
    cases c.callee <;> simp only [hargs]
  all_goals (first | rfl | (simp at h; simp only [h]))

theorem opK_congr {e e' : Env} {o : Oper} (s : Store) (h : ∀ x ∈ o.op.operands, ∀ t, opnd T t e x = opnd T t e' x) {γ : Type} (k : AV → Store → Option γ) : opK T H M O o e s k = opK T H M O o e' s k := by
  unfold opK
  rw [opV_congr s h]
  cases ho : o.op with
  | call c =>
    simp only
    cases hc : c.callee with
    | value f =>
      simp only
      have hf : opnd T 0 e f = opnd T 0 e' f := h f (by simp [ho, Op.operands, Call.operands, hc]) 0
      have hargs : ((c.args.toList.zip c.argTypes.toList).map fun p => opnd T p.2 e p.1) = ((c.args.toList.zip c.argTypes.toList).map fun p => opnd T p.2 e' p.1) :=
        List.map_congr_left fun p hm => by
          have : p.1 ∈ c.args.toList := (List.of_mem_zip (a := p.1) (b := p.2) hm).1
          exact h p.1 (by simp only [ho, Op.operands, Call.operands]; exact Array.mem_append.mpr (.inr (by simpa using this))) p.2
      rw [hf, hargs]
    | builtin b => rfl
    | invoke r n => rfl
  | _ => rfl

/-- what an operation comes to -/
def Step (T : Tab) (H : Hint) (M : FuncId → Mode) (O : Oracle) (o : Oper) (e : Env) (s : Store) (v : AV) (s' : Store) : Prop :=
  ∀ (γ : Type) (k : AV → Store → Option γ), opK T H M O o e s k = k v s'

def Yes (ops : Array Oper) (o : Oper) (e : Env) : Prop :=
  ∀ j want, o.guard = some (j, want) → ∃ d, (ops[j]?).bind (·.dst) = some d ∧ lk e d = .d .bool want

def No (ops : Array Oper) (o : Oper) (e : Env) : Prop :=
  ∃ j want d, o.guard = some (j, want) ∧ (ops[j]?).bind (·.dst) = some d ∧ (lk e d = .d .bool (!want) ∨ lk e d = .tup [])

def GStep (T : Tab) (H : Hint) (M : FuncId → Mode) (O : Oracle) (ops : Array Oper) (o : Oper) (e : Env) (s : Store) (v : AV) (s' : Store) : Prop :=
  (Yes ops o e ∧ Step T H M O o e s v s') ∨ (No ops o e ∧ v = .tup [] ∧ s' = s) ∨ ((lateTy T o).isSome = true ∧ v = .any ∧ s' = s)

theorem Step.congr {o : Oper} {e e' : Env} {s s' : Store} {v : AV} (h : ∀ x ∈ o.op.operands, ∀ t, opnd T t e x = opnd T t e' x) (hs : Step T H M O o e s v s') : Step T H M O o e' s v s' :=
  fun γ k => (opK_congr s h k).symm.trans (hs γ k)

/-- the environment as far as the operation looks at it -/
def Sees (ops : Array Oper) (o : Oper) (e e' : Env) : Prop := ∀ t ∈ o.looksAt ops, lk e t = lk e' t

theorem Sees.opnd {o : Oper} {e e' : Env} (h : Sees ops o e e') : ∀ x ∈ o.op.operands, ∀ t, opnd T t e x = opnd T t e' x := by
  intro x hx t
  cases x with
  | tmp i => exact h i (List.mem_append_left _ (List.mem_filterMap.2 ⟨.tmp i, by simpa using hx, rfl⟩))
  | const v => rfl
  | func f => rfl
  | global g => rfl

theorem GStep.congr {o : Oper} {e e' : Env} {s s' : Store} {v : AV} (h : Sees ops o e e') (hs : GStep T H M O ops o e s v s') : GStep T H M O ops o e' s v s' := by
  have hg : ∀ j want d, o.guard = some (j, want) → (ops[j]?).bind (·.dst) = some d → lk e d = lk e' d := fun j want d h1 h2 =>
    h d (List.mem_append_right _ (by simp [h1, h2]))
  rcases hs with ⟨h1, h2⟩ | ⟨⟨j, want, d, h1, h2, h3⟩, h4⟩ | h5
  · refine .inl ⟨fun j want hj => ?_, h2.congr h.opnd⟩
    obtain ⟨d, k1, k2⟩ := h1 j want hj
    exact ⟨d, k1, by rw [← hg j want d hj k1]; exact k2⟩
  · exact .inr (.inl ⟨⟨j, want, d, h1, h2, by rw [← hg j want d h1 h2]; exact h3⟩, h4⟩)
  · exact .inr (.inr h5)

theorem Step.uniq {o : Oper} {e : Env} {s s1 s2 : Store} {v1 v2 : AV} (h1 : Step T H M O o e s v1 s1) (h2 : Step T H M O o e s v2 s2) : v1 = v2 ∧ s1 = s2 := by
  have := (h1 (AV × Store) fun v s => some (v, s)).symm.trans (h2 (AV × Store) fun v s => some (v, s))
  simp only [Option.some.injEq, Prod.mk.injEq] at this
  exact this

/-- what it says of the store: nothing is changed, and so it is in a longer one -/
def KeepsS (T : Tab) (H : Hint) (M : FuncId → Mode) (O : Oracle) (o : Oper) (e : Env) (s : Store) : Prop :=
  ∀ v s', Step T H M O o e s v s' → s' = s ∧ ∀ t, Agrees s t → Step T H M O o e t v t

theorem plain_step {o : Oper} {e : Env} {s s' : Store} {v : AV} (hc : ∀ c f, o.op = .call c → c.callee ≠ .value f) : Step T H M O o e s v s' ↔ opV T H o e s = some (v, s') := by
  have heq : ∀ (γ : Type) (k : AV → Store → Option γ), opK T H M O o e s k = (opV T H o e s).bind fun x => k x.1 x.2 := by
    intro γ k
    unfold opK
    cases ho : o.op with
    | call c =>
      simp only
      cases hcc : c.callee with
      | value f => exact absurd hcc (hc c f ho)
      | _ => rfl
    | _ => rfl
  constructor
  · intro h
    have := h (AV × Store) fun v s => some (v, s)
    rw [heq] at this
    obtain ⟨x, h1, h2⟩ := Option.bind_eq_some_iff.mp this
    rw [h1, ← h2]
  · intro h γ k
    rw [heq, h]; rfl

theorem call_keeps {o : Oper} {e : Env} {s : Store} {cl : Call} {g : FuncId} (hop : o.op = .call cl) (hcal : cl.callee = .value (.func g)) (hM : M g = .borrow) (hO : OracleOk P O) :
    ∀ v s', Step T H M O o e s v s' → (∃ b, s' = s ++ b) ∧ (muOf H o.dst = false → s' = s ∧ ∀ t, Agrees s t → Step T H M O o e t v t) := by
  intro v s' hst
  have heq : ∀ (s : Store) (γ : Type) (k : AV → Store → Option γ), opK T H M O o e s k = if cl.args.size = cl.argTypes.size then
      (argsB T s cl.argTypes.toList ((cl.args.toList.zip cl.argTypes.toList).map fun (p : Operand × TypeId) => opnd T p.2 e p.1)).bind fun as => O.run g (as ++ []) [] fun v s1 =>
      if ((((cl.args.toList.zip cl.argTypes.toList).map fun (p : Operand × TypeId) => opnd T p.2 e p.1) ++ []).all isImm || (noL3 v && s1.all blkNoL)) = true then
        if muOf H o.dst = true then k (ren3 (fun i => some (s.length + i)) v) (s ++ s1.map (renB fun i => some (s.length + i)))
        else (frz T s1 o.type v).bind fun v => k v s
      else none else none := by
    intro s γ k
    have hfn : opnd T 0 e (.func g) = .fn g [] := rfl
    unfold opK
    simp only [hop, hcal, hfn, callV, hM, mapO, Option.bind_some]
  have h0 := hst (AV × Store) fun v s => some (v, s)
  rw [heq] at h0
  split at h0
  · rename_i hsz
    obtain ⟨as, h1, h2⟩ := Option.bind_eq_some_iff.mp h0
    rcases hO g (as ++ []) [] with hn | ⟨v1, s1, _, hr⟩
    · rw [hn] at h2; cases h2
    · rw [hr] at h2
      split at h2
      · rename_i hcond
        by_cases hmu : muOf H o.dst = true
        · rw [if_pos hmu] at h2
          simp only [Option.some.injEq, Prod.mk.injEq] at h2
          exact ⟨⟨_, h2.2.symm⟩, fun hf => by rw [hmu] at hf; cases hf⟩
        · rw [if_neg hmu] at h2
          obtain ⟨u, h3, h4⟩ := Option.bind_eq_some_iff.mp h2
          simp only [Option.some.injEq, Prod.mk.injEq] at h4
          obtain ⟨rfl, rfl⟩ := h4
          refine ⟨⟨[], by simp⟩, fun _ => ⟨rfl, fun t b γ k => ?_⟩⟩
          rw [heq, if_pos hsz, argsB_app b h1, Option.bind_some, hr, if_pos hcond, if_neg hmu, h3, Option.bind_some]
      · cases h2
  · cases h0

theorem quiet_keeps (hO : OracleOk P O) {o : Oper} {e : Env} {s : Store} (hq : quietOp H M o = true) : KeepsS T H M O o e s := by
  by_cases hc : ∀ c f, o.op = .call c → c.callee ≠ .value f
  · intro v s' hs
    rw [plain_step hc] at hs
    obtain ⟨h1, h2⟩ := opV_quiet o hq hc v s' hs
    exact ⟨h1, fun t b => (plain_step hc).mpr (h2 t b)⟩
  · simp only [Classical.not_forall, not_imp, Classical.not_not] at hc
    obtain ⟨cl, f, hop, hcal⟩ := hc
    unfold quietOp at hq
    simp only [hop, hcal] at hq
    cases f with
    | func g =>
      simp only [Bool.and_eq_true, Bool.not_eq_true', beq_iff_eq] at hq
      intro v s' hs
      exact (call_keeps hop hcal hq.2 hO v s' hs).2 hq.1
    | _ => cases hq

theorem pure_keeps (hO : OracleOk P O) {o : Oper} {e : Env} (hq : pureOp H M o = true) : KeepsS T H M O o e [] := by
  unfold pureOp at hq
  rcases Bool.or_eq_true_iff.mp hq with hq | hq
  · exact quiet_keeps hO hq
  · split at hq
    · rename_i cl hop
      split at hq
      · rename_i hcal
        have hc : ∀ c f, o.op = .call c → c.callee ≠ .value f := fun c f h1 h2 => by
          rw [hop] at h1
          obtain rfl := Op.call.inj h1
          rw [hcal] at h2; cases h2
        simp only [Bool.not_eq_true'] at hq
        intro v s' hs
        rw [plain_step hc] at hs
        have key : ∀ (b : Store), opV T H o e b = if cl.args.size = cl.argTypes.size then builtinV T false .append cl.argTypes.toList ((cl.args.toList.zip cl.argTypes.toList).map fun p => opnd T p.2 e p.1) b else none := by
          intro b
          unfold opV
          simp only [hop, hcal, hq]
        rw [key] at hs
        have : s' = [] ∧ ∀ b, opV T H o e b = some (v, b) := by
          simp only [key]
          split at hs
          · generalize (List.map (fun p => opnd T p.2 e p.1) (cl.args.toList.zip cl.argTypes.toList)) = as at hs ⊢
            generalize cl.argTypes.toList = ts at hs ⊢
            unfold builtinV at hs
            split at hs <;> try (cases hs; done)
            all_goals try (rename_i h _ _; cases h; done)
            all_goals try (rename_i h; cases h; done)
            rename_i t u r x y _
            split at hs
            · rename_i A U hA hU
              obtain ⟨ys, h1, h2⟩ := Option.bind_eq_some_iff.mp hs
              have hys : ∀ b, elems b A y = some ys := fun b => by
                cases y with
                | d _ _ => exact h1
                | e0 _ => exact h1
                | all id => simp [elems] at h1
                | ref id o l t => simp [elems] at h1
                | _ => cases h1
              cases x with
              | e0 a =>
                simp only [appendV] at h2
                split at h2
                · rename_i ha
                  split at h2
                  · rename_i hl
                    simp only [Option.some.injEq, mkRow_false, Prod.mk.injEq] at h2
                    obtain ⟨rfl, rfl⟩ := h2
                    refine ⟨rfl, fun b => ?_⟩
                    simp only [builtinV, hA, hU, hys, Option.bind_some, appendV, ha, if_true, hl, mkRow_false, if_pos]
                    exact if_pos (by assumption)
                  · cases h2
                · cases h2
              | all id => simp [appendV] at h2
              | ref id o l t => simp [appendV] at h2
              | _ => cases h2
            · rename_i A U hA hU
              obtain ⟨n, h1, h2⟩ := Option.bind_eq_some_iff.mp hs
              by_cases hb : n ≤ bigRow
              case neg => rw [if_neg hb] at h2; cases h2
              rw [if_pos hb] at h2
              cases x with
              | e0 a =>
                simp only [appendV] at h2
                split at h2
                · rename_i ha
                  split at h2
                  · rename_i hl
                    simp only [Option.some.injEq, mkRow_false, Prod.mk.injEq] at h2
                    obtain ⟨rfl, rfl⟩ := h2
                    refine ⟨rfl, fun b => ?_⟩
                    simp only [builtinV, hA, hU, h1, hb, Option.bind_some, appendV, ha, if_true, hl, mkRow_false, if_pos]
                    exact if_pos (by assumption)
                  · cases h2
                · cases h2
              | all id => simp [appendV] at h2
              | ref id o l t => simp [appendV] at h2
              | _ => cases h2
            · cases hs
          · cases hs
        exact ⟨this.1, fun t b => (plain_step hc).mpr (this.2 _)⟩
      · cases hq
    · cases hq

end
end Go.Ev

/-
  DRAWN REGIONS: any step that may come first can be brought to the front.
-/
namespace Go.Ev

section
variable {P : Program} {T : Tab} {H : Hint} {M : FuncId → Mode} {O : Oracle} {ops : Array Oper}

/-- the operations that wait for operation i, directly or through others -/
def Waits (ops : Array Oper) (listed : Array Bool) (i : Nat) (Z : Nat → Prop) : Prop :=
  ∀ z, Z z → listed.getD z true = false ∧ ∃ oz, ops[z]? = some oz ∧ ∃ e ∈ oz.after, Region.binds .any e = true ∧ (e.on = i ∨ Z e.on)

/-- what a step asks of those that are not yet listed -/
def MayP (ops : Array Oper) (listed : Array Bool) (i : Nat) (oi : Oper) (p : Oper → Prop) : Prop :=
  ∃ Z, Waits ops listed i Z ∧ ∀ (j : Nat) (oj : Oper), ops[j]? = some oj → j ≠ i → listed.getD j true = false → ¬ Z j → oi.apart ops oj = true ∧ p oj

theorem MayP.mono {listed : Array Bool} {i : Nat} {oi : Oper} {p q : Oper → Prop} (h : MayP ops listed i oi p) (k : ∀ o, p o → q o) : MayP ops listed i oi q := by
  obtain ⟨Z, hZ, h⟩ := h
  exact ⟨Z, hZ, fun j oj a b c d => ⟨(h j oj a b c d).1, k _ (h j oj a b c d).2⟩⟩

/-- outside the blocks ids, what stood there stands there still -/
def Same (ids : List Nat) (s s' : Store) : Prop := ∀ (i : Nat) (bk : Blk), i ∉ ids → s[i]? = some bk → s'[i]? = some bk

theorem Same.app (ids : List Nat) (s b : Store) : Same ids s (s ++ b) := fun i bk _ h => by
  rw [List.getElem?_append_left (List.getElem?_eq_some_iff.mp h).1]; exact h

theorem Same.trans {ids : List Nat} {s t u : Store} (h : Same ids s t) (k : Same ids t u) : Same ids s u := fun i bk hi hb => k i bk hi (h i bk hi hb)

theorem Same.mono {ids ids' : List Nat} {s t : Store} (h : Same ids s t) (hs : ∀ i ∈ ids, i ∈ ids') : Same ids' s t := fun i bk hi hb => h i bk (fun hm => hi (hs i hm)) hb

theorem Same.set (s : Store) (id : Nat) (b : Blk) : Same [id] s (putBlk s id b) := fun i bk hi hb => by
  unfold putBlk
  rw [List.getElem?_set_ne (by intro e; exact hi (by simp [e]))]
  exact hb

/-- a value that none of the operations that are left gives -/
def Free (ops : Array Oper) (listed : Array Bool) (t : Nat) : Prop := ∀ (k : Nat) (ok : Oper), ops[k]? = some ok → listed.getD k true = false → ok.dst ≠ some t

/-- below n, outside the blocks ids, what stood there stands there still -/
def SameN (n : Nat) (ids : List Nat) (s s' : Store) : Prop := ∀ (i : Nat) (bk : Blk), i < n → i ∉ ids → s[i]? = some bk → s'[i]? = some bk

theorem Same.below {ids : List Nat} {s s' : Store} (h : Same ids s s') (n : Nat) : SameN n ids s s' := fun i bk _ hi hb => h i bk hi hb

/-- it refers to blocks from n on, or to the blocks ids -/
def Fr (n : Nat) (ids : List Nat) (v : AV) : Prop := ∀ i ∈ id3 v, n ≤ i ∨ i ∈ ids

/-- whatever is still to come: this operation writes into the blocks ids alone, or into new ones; F are values that are new, or of the blocks ids -/
def TouchP (T : Tab) (H : Hint) (M : FuncId → Mode) (O : Oracle) (ops : Array Oper) (listed : Array Bool) (e : Env) (ids F : List Nat) (n : Nat) (oj : Oper) : Prop :=
  ∀ (e' : Env) (s : Store) (v : AV) (s' : Store), (∀ t, Free ops listed t → lk e' t = lk e t) → (∀ t ∈ F, Fr n ids (lk e' t)) → n ≤ s.length → GStep T H M O ops oj e' s v s' →
    SameN n ids s s' ∧ n ≤ s'.length ∧ ∀ t ∈ F, oj.dst = some t → Fr n ids v

theorem kill_get (ids : List Nat) : ∀ (n : Nat) (s : Store) (i : Nat), (killFrom ids n s)[i]? = (s[i]?).map fun b => if ids.contains (n + i) then .dead else b
  | _, [], i => by simp [killFrom]
  | n, b :: r, 0 => by simp [killFrom]
  | n, b :: r, i + 1 => by
    simp only [killFrom, List.getElem?_cons_succ]
    rw [kill_get ids (n + 1) r i, show n + 1 + i = n + (i + 1) from by omega]

theorem kill_agrees {n : Nat} {ids : List Nat} {s s' t : Store} (h : SameN n ids s s') (k : Agrees (kill ids (s'.take n)) t) : Agrees (kill ids (s.take n)) t := by
  intro i bk hb hne
  unfold kill at hb
  rw [kill_get, Nat.zero_add] at hb
  cases hs0 : (s.take n)[i]? with
  | none => rw [hs0] at hb; cases hb
  | some x =>
    rw [hs0] at hb
    rw [List.getElem?_take] at hs0
    split at hs0
    case isFalse => cases hs0
    rename_i hin
    have hs := hs0
    simp only [Option.map_some, Option.some.injEq] at hb
    by_cases hi : ids.contains i = true
    · rw [if_pos hi] at hb; exact absurd hb.symm hne
    · rw [if_neg hi] at hb
      subst hb
      have hi' : i ∉ ids := fun hm => hi (by simpa using hm)
      refine k i x ?_ hne
      unfold kill
      rw [kill_get, Nat.zero_add, List.getElem?_take, if_pos hin, h i x hin hi' hs]
      simp [hi']

theorem kill_self (n : Nat) (ids : List Nat) (s : Store) : Agrees (kill ids (s.take n)) s := by
  intro i bk hb hne
  unfold kill at hb
  rw [kill_get, Nat.zero_add] at hb
  cases hs : (s.take n)[i]? with
  | none => rw [hs] at hb; cases hb
  | some x =>
    rw [hs] at hb
    rw [List.getElem?_take] at hs
    split at hs
    case isFalse => cases hs
    simp only [Option.map_some, Option.some.injEq] at hb
    split at hb
    · exact absurd hb.symm hne
    · rw [hs, hb]

inductive Chain (T : Tab) (H : Hint) (M : FuncId → Mode) (O : Oracle) (ops : Array Oper) : Nat → Array Bool → Env → Store → Env → Store → Option (Nat × Array Bool) → Prop
  | done {listed e ef s} (h : Region.ready .any ops listed = []) (he : ∀ t, lk e t = lk ef t) : Chain T H M O ops 0 listed e s ef s none
  | stop {listed e ef s} (i : Nat) (h : Region.ready .any ops listed = [i]) (he : ∀ t, lk e t = lk ef t) : Chain T H M O ops 0 listed e s ef s (some (i, listed))
  | forced {n listed e s ef sf i o v s' fin} (ho : ops[i]? = some o) (hr : Region.ready .any ops listed = [i]) (hs : GStep T H M O ops o e s v s')
      (h : Chain T H M O ops n (listed.setIfInBounds i true) (putV e o.dst v) s' ef sf fin) : Chain T H M O ops (n + 1) listed e s ef sf fin
  | pure {n listed e s ef sf i o v fin} (ho : ops[i]? = some o) (hr : i ∈ Region.ready .any ops listed) (hm : MayP ops listed i o fun _ => True) (hs : ∀ b, GStep T H M O ops o e b v b)
      (h : Chain T H M O ops n (listed.setIfInBounds i true) (putV e o.dst v) s ef sf fin) : Chain T H M O ops (n + 1) listed e s ef sf fin
  | aside {n listed e s ef sf i o v fin} (ids F : List Nat) (k : Nat) (hk : k ≤ s.length) (hF : ∀ t ∈ F, Fr k ids (lk e t)) (ho : ops[i]? = some o) (hr : i ∈ Region.ready .any ops listed) (hm : MayP ops listed i o (TouchP T H M O ops listed e ids F k)) (hs : ∀ t, Agrees (kill ids (s.take k)) t → GStep T H M O ops o e t v t)
      (h : Chain T H M O ops n (listed.setIfInBounds i true) (putV e o.dst v) s ef sf fin) : Chain T H M O ops (n + 1) listed e s ef sf fin
  | over {n listed e s ef sf i o v fin} (i0 : Nat) (bk : Blk) (hi0 : i0 < s.length) (hbk : isData (some bk) = true) (ho : ops[i]? = some o) (hr : i ∈ Region.ready .any ops listed) (hm : MayP ops listed i o fun oj => calmOp H oj = true) (hs : ∀ t, t[i0]? = s[i0]? → GStep T H M O ops o e t v (t.set i0 bk))
      (h : Chain T H M O ops n (listed.setIfInBounds i true) (putV e o.dst v) (s.set i0 bk) ef sf fin) : Chain T H M O ops (n + 1) listed e s ef sf fin

theorem lk_putV {e : Env} {d : Option Tmp} {v : AV} {t : Nat} : lk (putV e d v) t = if d = some t then v else lk e t := by
  cases d with
  | none => simp [putV]
  | some d => simp [putV, lk_up]

theorem putV_same {e e' : Env} (h : ∀ t, lk e t = lk e' t) (d : Option Tmp) (v : AV) : ∀ t, lk (putV e d v) t = lk (putV e' d v) t := fun t => by
  rw [lk_putV, lk_putV, h]

theorem Chain.congr {n : Nat} {listed : Array Bool} {e ef : Env} {s sf : Store} {fin : Option (Nat × Array Bool)} (h : Chain T H M O ops n listed e s ef sf fin) : ∀ {e' : Env}, (∀ t, lk e t = lk e' t) → Chain T H M O ops n listed e' s ef sf fin := by
  induction h with
  | done h he => exact fun heq => .done h fun t => (heq t).symm.trans (he t)
  | stop i h he => exact fun heq => .stop i h fun t => (heq t).symm.trans (he t)
  | forced ho hr hs h ih => exact fun heq => .forced ho hr (hs.congr fun t _ => heq t) (ih (putV_same heq _ _))
  | pure ho hr hm hs h ih => exact fun heq => .pure ho hr hm (fun b => (hs b).congr fun t _ => heq t) (ih (putV_same heq _ _))
  | over i0 bk hi0 hbk ho hr hm hs h ih => exact fun heq => .over i0 bk hi0 hbk ho hr hm (fun b hb => (hs b hb).congr fun t _ => heq t) (ih (putV_same heq _ _))
  | aside ids F k hk hF ho hr hm hs h ih => exact fun heq => .aside ids F k hk (fun t ht => by rw [← heq]; exact hF t ht) ho hr (hm.mono fun o k e1 s1 v1 s2 hf hg => k e1 s1 v1 s2 (fun t ht => (hf t ht).trans (heq t).symm) hg) (fun b hb => (hs b hb).congr fun t _ => heq t) (ih (putV_same heq _ _))

theorem build_push {s s' : Store} {a : Ty} {u v : AV} (h : buildD s a u = some (v, s')) : ∃ b, s' = s ++ b := by
  unfold buildD at h
  split at h
  · split at h
    · obtain ⟨zs, _, h2⟩ := Option.map_eq_some_iff.mp h
      obtain ⟨_, rfl⟩ := Prod.mk.inj h2
      exact ⟨_, rfl⟩
    · cases h
  · cases h

theorem make_push {mu : Bool} {s s' : Store} {a : Ty} {n : Nat} {v : AV} (h : mkMake mu s a n = (v, s')) : ∃ b, s' = s ++ b := by
  unfold mkMake at h
  split at h
  · obtain ⟨_, rfl⟩ := Prod.mk.inj h; exact ⟨_, rfl⟩
  · unfold mkRow at h
    split at h
    · obtain ⟨_, rfl⟩ := Prod.mk.inj h; exact ⟨_, rfl⟩
    · obtain ⟨_, rfl⟩ := Prod.mk.inj h; exact ⟨[], by simp⟩

theorem push_step (hO : OracleOk P O) {o : Oper} {e : Env} {s s' : Store} {v : AV} (hp : pushOp H M o = true) (h : GStep T H M O ops o e s v s') : ∃ b, s' = s ++ b := by
  rcases h with ⟨hyes, h⟩ | ⟨_, _, rfl⟩ | ⟨_, _, rfl⟩
  case inr.inr => exact ⟨[], by simp⟩
  · clear hyes
    unfold pushOp at hp
    have hp0 := hp
    clear hp
    rcases Bool.or_eq_true_iff.mp hp0 with hp | hp <;> clear hp0
    · exact ⟨[], by simp [(quiet_keeps hO hp v s' h).1]⟩
    · by_cases hc : ∀ c f, o.op = .call c → c.callee ≠ .value f
      · rw [plain_step hc] at h
        obtain ⟨dst, op, type, pos, after, guard⟩ := o
        have hrow : ∀ (mu : Bool) (s : Store) (t : Ty) (xs : List t.D) (v : AV) (s' : Store), mkRow mu s t xs = (v, s') → ∃ b, s' = s ++ b := by
          intro mu s t xs v s' h
          unfold mkRow at h
          split at h
          · obtain ⟨_, rfl⟩ := Prod.mk.inj h; exact ⟨_, rfl⟩
          · obtain ⟨_, rfl⟩ := Prod.mk.inj h; exact ⟨[], by simp⟩
        have hvar : ∀ (mu : Bool) (s : Store) (t : Ty) (u v : AV) (s' : Store), mkVar mu s t u = some (v, s') → ∃ b, s' = s ++ b := by
          intro mu s t u v s' h
          unfold mkVar at h
          split at h
          · obtain ⟨_, rfl⟩ := Prod.mk.inj (Option.some.inj h); exact ⟨_, rfl⟩
          · obtain ⟨x, _, h2⟩ := Option.map_eq_some_iff.mp h
            obtain ⟨_, rfl⟩ := Prod.mk.inj h2; exact ⟨[], by simp⟩
        have hmove : ∀ (mu : Bool) (s : Store) (u v : AV) (s' : Store), moveV mu s u = (v, s') → ∃ b, s' = s ++ b := by
          intro mu s u v s' h
          unfold moveV at h
          split at h
          · split at h
            · obtain ⟨_, rfl⟩ := Prod.mk.inj h; exact ⟨_, rfl⟩
            · obtain ⟨_, rfl⟩ := Prod.mk.inj h; exact ⟨[], by simp⟩
          · obtain ⟨_, rfl⟩ := Prod.mk.inj h; exact ⟨[], by simp⟩
        dsimp only [opV] at h
        simp only at hp
        cases op <;> (try (simp only [Bool.false_eq_true] at hp; done)) <;> dsimp only at h
        case move x => exact hmove _ _ _ _ _ (Option.some.inj h)
        case assign x => exact hmove _ _ _ _ _ (Option.some.inj h)
        case alloc t =>
          obtain ⟨A, _, h2⟩ := Option.bind_eq_some_iff.mp h
          exact hvar _ _ _ _ _ _ h2
        case box t x =>
          obtain ⟨A, _, h2⟩ := Option.bind_eq_some_iff.mp h
          split at h2
          · exact hvar _ _ _ _ _ _ h2
          · cases h2
        case buildSlice t n ps =>
          split at h
          · split at h
            · split at h
              · simp only [Option.some.injEq] at h
                split at h
                · obtain ⟨_, rfl⟩ := Prod.mk.inj h; exact ⟨_, rfl⟩
                · obtain ⟨_, rfl⟩ := Prod.mk.inj h; exact ⟨[], by simp⟩
              · cases h
            · split at h
              · split at h
                · split at h
                  · exact build_push h
                  · cases h
                · cases h
              split at h
              · obtain ⟨xs, _, h2⟩ := Option.map_eq_some_iff.mp h
                exact hrow _ _ _ _ _ _ h2
              · cases h
          · cases h
        case makeSlice t l k =>
          split at h
          · split at h
            · obtain ⟨m, _, h2⟩ := Option.bind_eq_some_iff.mp h
              split at h2
              · exact make_push (Option.some.inj h2)
              · cases h2
            · cases h
          · cases h
        case call cl =>
          obtain ⟨callee, args, ats⟩ := cl
          cases callee with
          | value f => exact absurd rfl (hc _ f rfl)
          | builtin b => simp only [Bool.false_eq_true] at hp
          | invoke r n => simp only [Bool.false_eq_true] at hp
      · simp only [Classical.not_forall, not_imp, Classical.not_not] at hc
        obtain ⟨cl, f, hop, hcal⟩ := hc
        simp only [hop, hcal] at hp
        cases f with
        | func g =>
          simp only [beq_iff_eq] at hp
          exact (call_keeps hop hcal hp hO v s' h).1
        | _ => cases hp
  · exact ⟨[], by simp⟩

/-- an operation that looks at nothing does the same at another store of that length -/
theorem blind_step {o : Oper} {e : Env} {s s1 s' : Store} {v : AV} (hb : blindOp o = true) (hl : s1.length = s.length) (h : GStep T H M O ops o e s1 v s') : ∃ b, s' = s1 ++ b ∧ GStep T H M O ops o e s v (s ++ b) := by
  rcases h with ⟨hyes, h⟩ | ⟨hno, rfl, rfl⟩ | ⟨hlt, rfl, rfl⟩
  case inr.inr => exact ⟨[], by simp, .inr (.inr ⟨hlt, rfl, by simp⟩)⟩
  · obtain ⟨dst, op, type, pos, after, guard⟩ := o
    cases op <;> simp only [blindOp, Bool.false_eq_true] at hb
    rename_i t
    have hc : ∀ c f, (Op.alloc t) = .call c → c.callee ≠ .value f := fun c f h => by cases h
    rw [plain_step (o := ⟨dst, .alloc t, type, pos, after, guard⟩) hc] at h
    dsimp only [opV] at h
    obtain ⟨A, hA, h2⟩ := Option.bind_eq_some_iff.mp h
    have hvar : ∀ (mu : Bool) (V : AV), mkVar mu s1 A V = some (v, s') → ∃ b, s' = s1 ++ b ∧ mkVar mu s A V = some (v, s ++ b) := by
      intro mu V h2
      cases mu with
      | true =>
        simp only [mkVar, if_true] at h2 ⊢
        obtain ⟨rfl, rfl⟩ := Prod.mk.inj (Option.some.inj h2)
        rw [hl]
        exact ⟨_, rfl, rfl⟩
      | false =>
        simp only [mkVar, Bool.false_eq_true, if_false] at h2 ⊢
        obtain ⟨x, hx, h3⟩ := Option.map_eq_some_iff.mp h2
        obtain ⟨rfl, rfl⟩ := Prod.mk.inj h3
        rw [hx]
        exact ⟨[], by simp, by simp⟩
    have key : ∃ b, s' = s1 ++ b ∧ opV T H ⟨dst, .alloc t, type, pos, after, guard⟩ e s = some (v, s ++ b) := by
      dsimp only [opV]
      rw [hA, Option.bind_some]
      exact hvar _ _ h2
    obtain ⟨b, k1, k2⟩ := key
    exact ⟨b, k1, .inl ⟨hyes, (plain_step (o := ⟨dst, .alloc t, type, pos, after, guard⟩) hc).mpr k2⟩⟩
  · exact ⟨[], by simp, .inr (.inl ⟨hno, rfl, by simp⟩)⟩

/-- an operation that does not look into block i0 does the same whatever stands in it -/
theorem calm_step {o : Oper} {e : Env} {s s' : Store} {v : AV} {i0 : Nat} {bk : Blk} (hi0 : i0 < s.length) (hbk : isData (some bk) = true) (hb : calmOp H o = true) (h : GStep T H M O ops o e (s.set i0 bk) v s') :
    ∃ s2, s' = s2.set i0 bk ∧ i0 < s2.length ∧ s2[i0]? = s[i0]? ∧ GStep T H M O ops o e s v s2 := by
  have hap : ∀ b : Store, (s.set i0 bk) ++ b = (s ++ b).set i0 bk ∧ i0 < (s ++ b).length ∧ (s ++ b)[i0]? = s[i0]? := fun b =>
    ⟨by rw [List.set_append_left _ _ hi0], by rw [List.length_append]; omega, List.getElem?_append_left hi0⟩
  by_cases hbl : blindOp o = true
  · obtain ⟨b, rfl, k⟩ := blind_step (s := s) hbl (by simp) h
    exact ⟨s ++ b, (hap b).1, (hap b).2.1, (hap b).2.2, k⟩
  · unfold calmOp at hb
    split at hb
    case h_2 => exact absurd hb hbl
    rename_i tt p hop
    rcases h with ⟨hyes, h⟩ | ⟨hno, rfl, rfl⟩ | ⟨hlt, rfl, rfl⟩
    · have hc : ∀ c f, o.op = .call c → c.callee ≠ .value f := fun c f h => by rw [hop] at h; cases h
      rw [plain_step hc] at h
      have hy : ∀ s : Store, opV T H o e s = (T.ty tt).bind fun τ => takeV s τ (opnd T 0 e p) := fun s => by
        unfold opV
        simp only [hop, hb, if_true]
      rw [hy] at h
      obtain ⟨τ, hτ, h2⟩ := Option.bind_eq_some_iff.mp h
      have key : ∃ s2, s' = s2.set i0 bk ∧ i0 < s2.length ∧ s2[i0]? = s[i0]? ∧ takeV s τ (opnd T 0 e p) = some (v, s2) := by
        clear h hy hτ
        generalize opnd T 0 e p = q at h2
        unfold takeV at h2
        split at h2
        · rename_i id i f
          split at h2
          · rename_i a xss hs
            have hne : id ≠ i0 := fun e => by
              subst e
              rw [List.getElem?_set_self hi0] at hs
              obtain rfl := Option.some.inj hs
              cases hbk
            rw [List.getElem?_set_ne (Ne.symm hne)] at hs
            split at h2
            · rename_i hc2
              obtain ⟨xs, hxs, h3⟩ := Option.map_eq_some_iff.mp h2
              obtain ⟨rfl, rfl⟩ := Prod.mk.inj h3
              refine ⟨s.set id (.deep a xss (some (i, some s.length))) ++ [.data a xs], ?_, by simp; omega, ?_, ?_⟩
              · rw [List.set_append_left _ _ (by simpa using hi0), List.length_set, List.set_comm _ _ hne]
              · rw [List.getElem?_append_left (by simpa using hi0), List.getElem?_set_ne hne]
              · unfold takeV
                simp only [hs, if_pos hc2, hxs, Option.map_some, List.length_set]
            · cases h2
          · cases h2
        · cases h2
      obtain ⟨s2, k1, k2, k3, k4⟩ := key
      exact ⟨s2, k1, k2, k3, .inl ⟨hyes, (plain_step hc).mpr (by rw [hy, hτ]; exact k4)⟩⟩
    · exact ⟨s, rfl, hi0, rfl, .inr (.inl ⟨hno, rfl, rfl⟩)⟩
    · exact ⟨s, rfl, hi0, rfl, .inr (.inr ⟨hlt, rfl, rfl⟩)⟩

theorem sees_put {oi oj : Oper} {e : Env} {v : AV} (h : ∀ d, oi.dst = some d → d ∉ oj.looksAt ops) : Sees ops oj (putV e oi.dst v) e := fun t ht => by
  rw [lk_putV]
  split
  · rename_i e'; exact absurd ht (h t e')
  · rfl

theorem not_waits {listed : Array Bool} {i j : Nat} {Z : Nat → Prop} (hZ : Waits ops listed i Z) (hi : i ∈ Region.ready .any ops listed) (hj : j ∈ Region.ready .any ops listed) : ¬ Z j := by
  intro hz
  obtain ⟨_, oz, hoz, e, he, hb, hk⟩ := hZ j hz
  obtain ⟨_, oj, hoj, hall⟩ := mem_ready.1 hj
  rw [hoz] at hoj
  obtain rfl := Option.some.inj hoj
  have h1 := hall e he hb
  have h0 : listed.getD e.on true = false := by
    rcases hk with rfl | hk
    · exact (mem_ready.1 hi).1
    · exact (hZ _ hk).1
  rcases Nat.lt_or_ge e.on listed.size with h' | h'
  · simp [h'] at h0 h1; rw [h0] at h1; cases h1
  · simp [Array.getElem?_eq_none h'] at h1

theorem set_getD {listed : Array Bool} {j k : Nat} (h : (listed.setIfInBounds j true).getD k true = false) : listed.getD k true = false := by
  by_cases hjk : j = k
  · subst hjk
    rcases Nat.lt_or_ge j listed.size with h' | h'
    · simp [h'] at h
    · simp [Array.getElem?_eq_none h'] at h
  · rw [getD_set_ne true hjk] at h; exact h

theorem MayP.set {listed : Array Bool} {i j : Nat} {oi : Oper} {p : Oper → Prop} (h : MayP ops listed i oi p) (hi : i ∈ Region.ready .any ops listed) (hj : j ∈ Region.ready .any ops listed) : MayP ops (listed.setIfInBounds j true) i oi p := by
  obtain ⟨Z, hZ, h⟩ := h
  have hn := not_waits hZ hi hj
  refine ⟨Z, fun z hz => ?_, fun k ok hk hki hun hno => h k ok hk hki (set_getD hun) hno⟩
  obtain ⟨h1, h2⟩ := hZ z hz
  refine ⟨?_, h2⟩
  have : j ≠ z := fun e => hn (e ▸ hz)
  rw [getD_set_ne true this]
  exact h1

/-- where another operation can come first, the chain is not at its end -/
theorem Chain.tail_pos {n : Nat} {listed : Array Bool} {e ef : Env} {s sf : Store} {fin : Option (Nat × Array Bool)} {i j : Nat} {oi : Oper} (ho : ops[i]? = some oi) (hi : i ∈ Region.ready .any ops listed) (hj : j ∈ Region.ready .any ops listed) (hji : j ≠ i) (hst : ∀ L, fin ≠ some (j, L)) (hn : n = 0)
    (h : Chain T H M O ops n (listed.setIfInBounds i true) e s ef sf fin) : False := by
  have hj' : j ∈ Region.ready .any ops (listed.setIfInBounds i true) := ready_mono hj hji
  cases h with
  | done h he => rw [h] at hj'; cases hj'
  | stop k h he =>
    rw [h] at hj'
    obtain rfl := List.mem_singleton.1 hj'
    exact hst _ rfl
  | forced ho hr hs h => cases hn
  | pure ho hr hm hs h => cases hn
  | aside ids F k hk hF ho hr hm hs h => cases hn
  | over i0 bk hi0 hbk ho hr hm hs h => cases hn

/-- what is ready can be brought to the front -/
theorem Chain.front (hO : OracleOk P O) {n : Nat} {listed : Array Bool} {e ef : Env} {s sf : Store} {fin : Option (Nat × Array Bool)} (h : Chain T H M O ops n listed e s ef sf fin) : n ≠ 0 → ∀ {j : Nat} {oj : Oper}, j ∈ Region.ready .any ops listed → (∀ L, fin ≠ some (j, L)) → ops[j]? = some oj →
    ∃ m v s', n = m + 1 ∧ GStep T H M O ops oj e s v s' ∧ Chain T H M O ops m (listed.setIfInBounds j true) (putV e oj.dst v) s' ef sf fin := by
  -- two steps change places
  have swap : ∀ {listed : Array Bool} {i j : Nat} {oi oj : Oper} {p : Oper → Prop} (hj : j ∈ Region.ready .any ops listed) (hoj : ops[j]? = some oj) (hr : i ∈ Region.ready .any ops listed) (hne : j ≠ i) (hm : MayP ops listed i oi p),
      (oi.apart ops oj = true ∧ p oj) := by
    intro listed i j oi oj p hj hoj hr hne hm
    obtain ⟨hjun, oj', hoj', hall⟩ := mem_ready.1 hj
    rw [hoj] at hoj'
    obtain rfl := Option.some.inj hoj'
    obtain ⟨Z, hZ, hm⟩ := hm
    exact hm j oj hoj hne hjun (not_waits hZ hr hj)
  have comm : ∀ {e : Env} {oi oj : Oper} {v u : AV}, oi.apart ops oj = true → ∀ t, lk (putV (putV e oi.dst v) oj.dst u) t = lk (putV (putV e oj.dst u) oi.dst v) t := by
    intro e oi oj v u hap t
    obtain ⟨_, h2, _⟩ := Oper.apart_spec hap
    simp only [lk_putV]
    by_cases h3 : oj.dst = some t
    · by_cases h4 : oi.dst = some t
      · exact absurd h3 (h2 t h4)
      · simp [h3, h4]
    · simp [h3]
  induction h with
  | done h he => intro hn0; exact absurd rfl hn0
  | stop i h he => intro hn0; exact absurd rfl hn0
  | @forced n listed e s ef sf i o v s' fin ho hr hs h ih =>
    intro _ j oj hj hst hoj
    rw [hr] at hj
    obtain rfl := List.mem_singleton.1 hj
    rw [ho] at hoj
    obtain rfl := Option.some.inj hoj
    exact ⟨n, v, s', rfl, hs, h⟩
  | @pure n listed e s ef sf i o v fin ho hr hm hs h ih =>
    intro _ j oj hj hst hoj
    by_cases hji : j = i
    · subst hji
      rw [ho] at hoj
      obtain rfl := Option.some.inj hoj
      exact ⟨n, v, s, rfl, hs s, h⟩
    · obtain ⟨hap, _⟩ := swap hj hoj hr hji hm
      obtain ⟨h1, _, h3⟩ := Oper.apart_spec hap
      obtain ⟨m, u, s', rfl, k1, k2⟩ := ih (fun hn => Chain.tail_pos ho hr hj hji hst hn h) (ready_mono hj hji) hst hoj
      refine ⟨m + 1, u, s', rfl, k1.congr (sees_put h1), ?_⟩
      refine .pure (v := v) ho (ready_mono hr (Ne.symm hji)) (hm.set hr hj) (fun b => (hs b).congr fun t ht => ((sees_put (e := e) (v := u) (oi := oj) (oj := o) h3) t ht).symm) ?_
      rw [Array.setIfInBounds_comm _ _ hji]
      exact k2.congr (comm hap)
  | @over n listed e s ef sf i o v fin i0 bk hi0 hbk ho hr hm hs h ih =>
    intro _ j oj hj hst hoj
    by_cases hji : j = i
    · subst hji
      rw [ho] at hoj
      obtain rfl := Option.some.inj hoj
      exact ⟨n, v, s.set i0 bk, rfl, hs s rfl, h⟩
    · obtain ⟨hap, hblind⟩ := swap hj hoj hr hji hm
      obtain ⟨h1, _, h3⟩ := Oper.apart_spec hap
      obtain ⟨m, u, s', rfl, k1, k2⟩ := ih (fun hn => Chain.tail_pos ho hr hj hji hst hn h) (ready_mono hj hji) hst hoj
      obtain ⟨s2, rfl, hi2, hg2, k3⟩ := calm_step hi0 hbk hblind (k1.congr (sees_put h1))
      refine ⟨m + 1, u, s2, rfl, k3, ?_⟩
      refine .over i0 bk hi2 hbk (v := v) ho (ready_mono hr (Ne.symm hji)) (hm.set hr hj) (fun b' hb' => ?_) ?_
      · exact (hs b' (hb'.trans hg2)).congr fun t ht => ((sees_put (e := e) (v := u) (oi := oj) (oj := o) h3) t ht).symm
      · rw [Array.setIfInBounds_comm _ _ hji]
        exact k2.congr (comm hap)
  | @aside n listed e s ef sf i o v fin ids F k hk hF ho hr hm hs h ih =>
    intro _ j oj hj hst hoj
    by_cases hji : j = i
    · subst hji
      rw [ho] at hoj
      obtain rfl := Option.some.inj hoj
      exact ⟨n, v, s, rfl, hs s (kill_self k ids s), h⟩
    · obtain ⟨hap, htouch⟩ := swap hj hoj hr hji hm
      have hjun := (mem_ready.1 hj).1
      obtain ⟨h1, _, h3⟩ := Oper.apart_spec hap
      obtain ⟨m, u, s', rfl, k1, k2⟩ := ih (fun hn => Chain.tail_pos ho hr hj hji hst hn h) (ready_mono hj hji) hst hoj
      have hk1 := k1.congr (sees_put h1)
      obtain ⟨hsame, hlen, hfr⟩ := htouch e s u s' (fun _ _ => rfl) hF hk hk1
      refine ⟨m + 1, u, s', rfl, hk1, ?_⟩
      refine .aside (v := v) ids F k hlen (fun t ht => ?_) ho (ready_mono hr (Ne.symm hji)) ((hm.set hr hj).mono fun ok q2 => ?_) (fun t ht => ?_) ?_
      · rw [lk_putV]
        split
        · rename_i hd
          exact hfr t ht hd
        · exact hF t ht
      · intro e1 s1 v1 s2 hf hg
        refine q2 e1 s1 v1 s2 (fun t ht => ?_) hg
        have ht' : Free ops (listed.setIfInBounds j true) t := fun k' ok' a' b' => ht k' ok' a' (by
          by_cases hjk : j = k'
          · subst hjk
            rcases Nat.lt_or_ge j listed.size with h' | h'
            · simp [h'] at b'
            · simp [Array.getElem?_eq_none h'] at b'
          · rw [getD_set_ne true hjk] at b'; exact b')
        rw [hf t ht', lk_putV, if_neg (ht j oj hoj hjun)]
      · exact (hs t (kill_agrees hsame ht)).congr fun t ht => ((sees_put (e := e) (v := u) (oi := oj) (oj := o) h3) t ht).symm
      · rw [Array.setIfInBounds_comm _ _ hji]
        exact k2.congr (comm hap)

/-! ### operations that may come at any time -/

theorem Chain.back {n : Nat} {listed : Array Bool} {e ef : Env} {s sf : Store} {i : Nat} {L : Array Bool} {fin : Option (Nat × Array Bool)} (h : Chain T H M O ops n listed e s ef sf fin) (hf : fin = some (i, L)) :
    Region.ready .any ops L = [i] ∧ ∀ x, L.getD x true = false → listed.getD x true = false := by
  induction h with
  | done h he => cases hf
  | stop k h he =>
    obtain ⟨rfl, rfl⟩ := Prod.mk.inj (Option.some.inj hf)
    exact ⟨h, fun _ h => h⟩
  | forced ho hr hs h ih => exact ⟨(ih hf).1, fun x hx => set_getD ((ih hf).2 x hx)⟩
  | pure ho hr hm hs h ih => exact ⟨(ih hf).1, fun x hx => set_getD ((ih hf).2 x hx)⟩
  | aside ids F k hk hF ho hr hm hs h ih => exact ⟨(ih hf).1, fun x hx => set_getD ((ih hf).2 x hx)⟩
  | over i0 bk hi0 hbk ho hr hm hs h ih => exact ⟨(ih hf).1, fun x hx => set_getD ((ih hf).2 x hx)⟩

theorem light_step {o : Oper} {e : Env} {s s' : Store} {v : AV} (hx : (match o.op with | .extract .. => true | _ => false) = true) (h : GStep T H M O ops o e s v s') : s' = s ∧ ∀ b, GStep T H M O ops o e b v b := by
  rcases h with ⟨hyes, h⟩ | ⟨hno, rfl, rfl⟩ | ⟨hlt, rfl, rfl⟩
  · obtain ⟨dst, op, type, pos, after, guard⟩ := o
    cases op <;> simp only [Bool.false_eq_true] at hx
    rename_i x k
    have hc : ∀ c f, (Op.extract x k) = .call c → c.callee ≠ .value f := fun c f h => by cases h
    rw [plain_step (o := ⟨dst, .extract x k, type, pos, after, guard⟩) hc] at h
    have hy : ∀ (s : Store), opV T H ⟨dst, .extract x k, type, pos, after, guard⟩ e s = (match opnd T 0 e x with | .tup vs => vs[k]? | _ => none).map fun v => (v, s) := fun s => by
      show (match opnd T 0 e x with | .tup vs => (vs[k]?).map fun v => (v, s) | _ => none) = _
      cases opnd T 0 e x <;> rfl
    rw [hy] at h
    obtain ⟨u, hu, h2⟩ := Option.map_eq_some_iff.mp h
    obtain ⟨rfl, rfl⟩ := Prod.mk.inj h2
    refine ⟨rfl, fun b => .inl ⟨hyes, (plain_step (o := ⟨dst, .extract x k, type, pos, after, guard⟩) hc).mpr ?_⟩⟩
    rw [hy, hu]
    rfl
  · exact ⟨rfl, fun b => .inr (.inl ⟨hno, rfl, rfl⟩)⟩
  · exact ⟨rfl, fun b => .inr (.inr ⟨hlt, rfl, rfl⟩)⟩

/-- operation i waits for j; and for every other, or every other for it, but for those that may come at any time and have nothing to do with what j gives -/
def WaitsAll (ops : Array Oper) (i : Nat) (d : Nat) : Prop :=
  ∀ (k : Nat) (ok : Oper), ops[k]? = some ok → k ≠ i → ∃ oi, ops[i]? = some oi ∧ ((∃ e ∈ oi.after, Region.binds .any e = true ∧ e.on = k) ∨ (∃ e ∈ ok.after, Region.binds .any e = true ∧ e.on = i) ∨
    ((match ok.op with | .extract .. => true | _ => false) = true ∧ d ∉ ok.looksAt ops ∧ ok.dst ≠ some d))

theorem light_chain {i d m : Nat} {t : TypeId} {o : Oper} {x : AV × Store} {e1 ef : Env} {s1 sf : Store} {L : Array Bool} (hW : WaitsAll ops i d) (hop : o.op = .alloc t) (hd : o.dst = some d) (hx : opV T H o e1 s1 = some x)
    (hc : Chain T H M O ops m L (putV e1 o.dst x.1) x.2 ef sf none) {n : Nat} {listed : Array Bool} {e : Env} {s : Store} {e1' : Env} {s1' : Store} {fin : Option (Nat × Array Bool)} (h : Chain T H M O ops n listed e s e1' s1' fin) :
    fin = some (i, L) → e1' = e1 → s1' = s1 → i ∈ Region.ready .any ops listed → opV T H o e s = some x ∧ lk e d = lk e1 d ∧ Chain T H M O ops (n + m) listed (putV e o.dst x.1) x.2 ef sf none := by
  have hop2 : ∀ (e e' : Env) (s : Store), opV T H o e s = opV T H o e' s := fun e e' s => opV_congr (o := o) s fun y hy => by rw [hop] at hy; simp [Op.operands] at hy
  have contra : ∀ {listed : Array Bool} {k : Nat}, listed.getD k true = false → listed.getD k false = true → False := fun {listed} {k} h0 h1 => by
    rcases Nat.lt_or_ge k listed.size with h' | h'
    · simp [h'] at h0 h1; rw [h0] at h1; cases h1
    · simp [Array.getElem?_eq_none h'] at h1
  have isLight : ∀ {listed : Array Bool} {k : Nat} {ok : Oper}, ops[k]? = some ok → k ≠ i → k ∈ Region.ready .any ops listed → i ∈ Region.ready .any ops listed →
      (match ok.op with | .extract .. => true | _ => false) = true ∧ d ∉ ok.looksAt ops ∧ ok.dst ≠ some d := fun {listed k ok} hk hne hkr hir => by
    obtain ⟨oi, hoi, hcase⟩ := hW k ok hk hne
    obtain ⟨hiun, oi', hoi', halli⟩ := mem_ready.1 hir
    obtain ⟨hkun, ok', hok', hallk⟩ := mem_ready.1 hkr
    rw [hoi] at hoi'
    obtain rfl := Option.some.inj hoi'
    rw [hk] at hok'
    obtain rfl := Option.some.inj hok'
    rcases hcase with ⟨e, he, hb, hon⟩ | ⟨e, he, hb, hon⟩ | hl
    · exact (contra hkun (by rw [← hon]; exact halli e he hb)).elim
    · exact (contra hiun (by rw [← hon]; exact hallk e he hb)).elim
    · exact hl
  have notI : ∀ {n : Nat} {listed : Array Bool} {e : Env} {s : Store} {fin : Option (Nat × Array Bool)} {e1' : Env} {s1' : Store}, Chain T H M O ops n (listed.setIfInBounds i true) e s e1' s1' fin → fin = some (i, L) → False := fun h hf => by
    obtain ⟨h1, h2⟩ := h.back hf
    have hi : i ∈ Region.ready .any ops L := by rw [h1]; simp
    have := h2 i (mem_ready.1 hi).1
    rename_i n listed e s fin e1' s1'
    rcases Nat.lt_or_ge i listed.size with h' | h'
    · simp [h'] at this
    · simp [Array.getElem?_eq_none h'] at this
  have step : ∀ {n : Nat} {listed : Array Bool} {e : Env} {s : Store} {k : Nat} {ok : Oper} {v : AV}, ops[k]? = some ok → k ≠ i → k ∈ Region.ready .any ops listed → i ∈ Region.ready .any ops listed → MayP ops listed k ok (fun _ => True) → GStep T H M O ops ok e s v s →
      (opV T H o (putV e ok.dst v) s = some x ∧ lk (putV e ok.dst v) d = lk e1 d ∧ Chain T H M O ops (n + m) (listed.setIfInBounds k true) (putV (putV e ok.dst v) o.dst x.1) x.2 ef sf none) →
      opV T H o e s = some x ∧ lk e d = lk e1 d ∧ Chain T H M O ops (n + 1 + m) listed (putV e o.dst x.1) x.2 ef sf none := by
    intro n listed e s k ok v hk hne hkr hir hm hg ⟨h1, h2, h3⟩
    obtain ⟨l1, l2, l3⟩ := isLight hk hne hkr hir
    refine ⟨by rw [hop2 e (putV e ok.dst v)]; exact h1, by rw [← h2, lk_putV, if_neg l3], ?_⟩
    rw [show n + 1 + m = n + m + 1 by omega]
    refine .pure (v := v) hk hkr hm (fun b => ((light_step l1 hg).2 b).congr fun t ht => ?_) (h3.congr fun t => ?_)
    · rw [lk_putV, if_neg]
      rw [hd]
      intro e
      obtain rfl := Option.some.inj e
      exact l2 ht
    · simp only [lk_putV]
      by_cases q1 : o.dst = some t
      · by_cases q2 : ok.dst = some t
        · rw [hd] at q1
          rw [q1] at l3
          exact absurd q2 l3
        · simp [q1, q2]
      · simp [q1]
  induction h with
  | done h he => intro hf; cases hf
  | @stop listed e ef' s k h he =>
    intro hf h1 h2 hi
    obtain ⟨rfl, rfl⟩ := Prod.mk.inj (Option.some.inj hf)
    subst h1
    subst h2
    refine ⟨by rw [hop2 e ef']; exact hx, he d, ?_⟩
    rw [Nat.zero_add]
    exact hc.congr (putV_same (fun t => (he t).symm) _ _)
  | @forced n listed e s ef' sf' k ok v s' fin ho hr hs h ih =>
    intro hf h1 h2 hi
    rw [hr] at hi
    obtain rfl := List.mem_singleton.1 hi
    exact (notI h hf).elim
  | @pure n listed e s ef' sf' k ok v fin ho hr hm hs h ih =>
    intro hf h1 h2 hi
    by_cases hki : k = i
    · subst hki; exact (notI h hf).elim
    · exact step ho hki hr hi hm (hs s) (ih hf h1 h2 (ready_mono hi (Ne.symm hki)))
  | @aside n listed e s ef' sf' k ok v fin ids F q hq hF ho hr hm hs h ih =>
    intro hf h1 h2 hi
    by_cases hki : k = i
    · subst hki; exact (notI h hf).elim
    · exact step ho hki hr hi (hm.mono fun _ _ => trivial) (hs s (kill_self q ids s)) (ih hf h1 h2 (ready_mono hi (Ne.symm hki)))
  | @over n listed e s ef' sf' k ok v fin i0 bk hi0 hbk ho hr hm hs h ih =>
    intro hf h1 h2 hi
    by_cases hki : k = i
    · subst hki; exact (notI h hf).elim
    · have hg := hs s rfl
      have e2 := (light_step (isLight ho hki hr hi).1 hg).1
      rw [e2] at hg h ih
      exact step ho hki hr hi (hm.mono fun _ _ => trivial) hg (ih hf h1 h2 (ready_mono hi (Ne.symm hki)))

end
end Go.Ev
