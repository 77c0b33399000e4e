/- What is handed to a function from outside: closed values, read off the reader's own words. -/
import Derived.Test.YtmmipinjkbkkmaaPmSpec
import Derived.OpenShut
import Derived.ChangeArms
set_option linter.unusedSimpArgs false
set_option linter.unusedVariables false
set_option linter.unusedSectionVars false
set_option linter.unnecessarySimpa false
namespace Go.PM
variable {P : Program}

def NoWr : Nat → Prop := fun _ => False
def RelCs (w : World) (pcs : List CV) (cs : List Value) : Prop := cs.length = pcs.length ∧ ∀ (i : Nat) (p : CV) (v : Value), pcs[i]? = some p → cs[i]? = some v → v.oneCell' = true ∧ RelC w NoWr p v
def Opens (P : Program) (t : TypeId) (n : Nat) (G : List CV → Prop) : Prop := P.cellsOf t = n ∧ (∀ pcs, G pcs → pcs.length = n) ∧
  ∀ (H : Type) (enc : TypeId × Value → H) (w : World) (fuel : Nat) (cs : List Value) (x : DataW H × List MemPlace), DataW.trod enc P w 0 (fun _ => true) true fuel t cs = some x → ∃ pcs, G pcs ∧ RelCs w pcs cs

theorem RelCs.nil {w : World} : RelCs w [] [] := ⟨rfl, fun i p v h => by cases h⟩
theorem RelCs.one {w : World} {p : CV} {v : Value} (h1 : v.oneCell' = true) (h : RelC w NoWr p v) : RelCs w [p] [v] := by
  refine ⟨rfl, fun i q u hq hu => ?_⟩
  cases i with
  | zero => cases hq; cases hu; exact ⟨h1, h⟩
  | succ i => cases hq
theorem RelCs.append {w : World} {ps qs : List CV} {cs ds : List Value} (h : RelCs w ps cs) (k : RelCs w qs ds) : RelCs w (ps ++ qs) (cs ++ ds) := by
  refine ⟨by simp [h.1, k.1], fun i q u hq hu => ?_⟩
  by_cases hi : i < ps.length
  · rw [List.getElem?_append_left hi] at hq
    rw [List.getElem?_append_left (by rw [h.1]; exact hi)] at hu
    exact h.2 i q u hq hu
  · rw [List.getElem?_append_right (by omega)] at hq
    rw [List.getElem?_append_right (by rw [h.1]; omega), h.1] at hu
    exact k.2 _ q u hq hu
theorem Opens.mono {t : TypeId} {n : Nat} {G G' : List CV → Prop} (h : Opens P t n G) (hg : ∀ pcs, G pcs → G' pcs) (hl : ∀ pcs, G' pcs → pcs.length = n) : Opens P t n G' :=
  ⟨h.1, hl, fun H enc w fuel cs x hx => by
    obtain ⟨pcs, h1, h2⟩ := h.2.2 H enc w fuel cs x hx
    exact ⟨pcs, hg _ h1, h2⟩⟩
theorem opens_int {t : TypeId} {k : IntKind} (ht : P.underlying t = some (.int k)) (hc : P.cellsOf t = 1) : Opens P t 1 fun pcs => ∃ n, pcs = [.lit (.int k n)] ∧ (Lit.int k n).wf = true :=
  ⟨hc, fun pcs ⟨n, e, _⟩ => by rw [e]; rfl, fun H enc w fuel cs x hx => by
    obtain ⟨n, rfl, _, hw⟩ := DataW.trod_int ht hx
    exact ⟨_, ⟨n, rfl, hw⟩, RelCs.one rfl (.lit _)⟩⟩
theorem opens_bool {t : TypeId} (ht : P.underlying t = some .bool) (hc : P.cellsOf t = 1) : Opens P t 1 fun pcs => ∃ b, pcs = [.lit (.bool b)] :=
  ⟨hc, fun pcs ⟨n, e⟩ => by rw [e]; rfl, fun H enc w fuel cs x hx => by
    obtain ⟨b, rfl, _⟩ := DataW.trod_bool ht hx
    exact ⟨_, ⟨b, rfl⟩, RelCs.one rfl (.lit _)⟩⟩

theorem addr_add_add (a : Addr) (m i : Nat) : (a.add m).add i = a.add (m + i) := by
  unfold Addr.add
  by_cases hm : m = 0
  · subst hm; simp
  · by_cases hi : i = 0
    · subst hi; simp
    · rw [if_neg hm, if_neg hi, if_neg (by omega)]
      simp [Nat.add_assoc]
theorem choose_list {α : Type} {Q : Nat → α → Prop} : ∀ (n : Nat), (∀ i, i < n → ∃ y, Q i y) → ∃ l : List α, l.length = n ∧ ∀ (i : Nat) (y : α), l[i]? = some y → Q i y
  | 0, _ => ⟨[], rfl, fun i y h => by cases h⟩
  | n + 1, h => by
    obtain ⟨l, hl, hq⟩ := choose_list n fun i hi => h i (by omega)
    obtain ⟨y, hy⟩ := h n (by omega)
    refine ⟨l ++ [y], by simp [hl], fun i z hz => ?_⟩
    by_cases hi : i < l.length
    · rw [List.getElem?_append_left hi] at hz; exact hq i z hz
    · rw [List.getElem?_append_right (by omega)] at hz
      have : i - l.length = 0 := by
        have := (List.getElem?_eq_some_iff.1 hz).1
        simp at this; omega
      rw [this] at hz
      cases hz
      have e : i = n := by omega
      rw [e]; exact hy

theorem opens_slice {t e : TypeId} {sz : Nat} {G : List CV → Prop} (ht : P.underlying t = some (.slice e)) (hc : P.cellsOf t = 1) (he : Opens P e sz G) (hsz : 0 < sz) : Opens P t 1 fun pcs => ∃ xs, pcs = [.ro sz xs] ∧ (∀ x ∈ xs, G x) ∧ xs.length ≤ maxLen :=
  ⟨hc, fun pcs ⟨n, e, _⟩ => by rw [e]; rfl, fun H enc w fuel cs x hx => by
    rcases DataW.trod_slice ht hx with ⟨rfl, _⟩ | ⟨a, len, cap, elems, rest, n, _, rfl, _, _, hl, hm, hel, hget, _, _⟩
    · exact ⟨_, ⟨[], rfl, fun _ h => by simp at h, Nat.zero_le _⟩, RelCs.one rfl (.ro sz [] none 0 (fun _ _ => .bool false) (Nat.le_refl _) (fun _ _ h => by simp at h) (fun h => absurd rfl h) (fun _ _ => rfl) (fun _ _ _ _ h => by simp at h))⟩
    · obtain ⟨hce, hlen, hop⟩ := he
      have each : ∀ i, i < len → ∃ y : List CV × List Value, G y.1 ∧ RelCs w y.1 y.2 ∧ w.cells? 0 (a.add (i * sz)) sz = some y.2 := by
        intro i hi
        have h := hget i hi
        rw [hce] at h
        have hsome : elems[i]? = some (elems[i]'(by omega)) := List.getElem?_eq_getElem _
        rw [hsome, Option.bind_eq_some_iff] at h
        obtain ⟨es, h1, h2⟩ := h
        obtain ⟨pcs, h3, h4⟩ := hop H enc w n es _ h2
        exact ⟨(pcs, es), h3, h4, h1⟩
      obtain ⟨l, hll, hq⟩ := choose_list len each
      have hxs : (l.map (·.1)).length = len := by simp [hll]
      refine ⟨[.ro sz (l.map (·.1))], ⟨_, rfl, fun x hx => ?_, by rw [hxs]; omega⟩, ?_⟩
      · obtain ⟨y, hy, rfl⟩ := List.mem_map.1 hx
        obtain ⟨i, hi⟩ := List.mem_iff_getElem?.1 hy
        exact (hq i y hi).1
      · refine RelCs.one rfl ?_
        let f : Nat → Nat → Value := fun j i => match (l[j]?).bind (fun y => y.2[i]?) with
          | some v => if v.oneCell' = true then v else .bool false
          | none => .bool false
        have hf1 : ∀ j i, (f j i).oneCell' = true := fun j i => by
          simp only [f]
          split
          · split
            · assumption
            · rfl
          · rfl
        have hfv : ∀ j i (y : List CV × List Value) (p : CV) (v : Value), l[j]? = some y → y.1[i]? = some p → y.2[i]? = some v → f j i = v := fun j i y p v hy hp hv => by
          simp only [f, hy, Option.bind_some, hv]
          rw [if_pos ((hq j y hy).2.1.2 i p v hp hv).1]
        have cellsz : ∀ j (y : List CV × List Value), l[j]? = some y → y.2.length = sz ∧ ∀ i, i < sz → w.cell? (a.add (j * sz + i)) = y.2[i]? := fun j y hy => by
          have h := World.cells?_some (hq j y hy).2.2
          have hlen2 : y.2.length = sz := by
            rw [(hq j y hy).2.1.1]; exact hlen _ (hq j y hy).1
          refine ⟨hlen2, fun i hi => ?_⟩
          rw [← addr_add_add]
          exact h.2.2 i hi
        have hgoal := RelC.ro (w := w) (wr := NoWr) sz (l.map (·.1)) (some a) cap f (by rw [hxs]; exact hl) (fun j x hx => by
          simp only [List.getElem?_map, Option.map_eq_some_iff] at hx
          obtain ⟨y, hy, rfl⟩ := hx
          exact hlen _ (hq j y hy).1) (fun hne => ?_) hf1 (fun j i x p hx hp => ?_)
        · rw [hxs] at hgoal; exact hgoal
        · refine ⟨a, rfl, ?_, fun h => h, fun j i hj hi => ?_⟩
          · have h0 : 0 < l.length := by
              rcases l with _ | _
              · exact absurd rfl hne
              · simp
            have hy := List.getElem?_eq_getElem h0
            obtain ⟨h1, h2⟩ := cellsz 0 _ hy
            have := h2 0 hsz
            rw [Nat.zero_mul] at this
            rw [List.getElem?_eq_getElem (by omega)] at this
            have := World.block_lt_of_cell? w _ this
            simpa [Addr.add] using this
          · rw [List.length_map] at hj
            have hy := List.getElem?_eq_getElem hj
            obtain ⟨h1, h2⟩ := cellsz j _ hy
            have hv : (l[j]).2[i]? = some ((l[j]).2[i]'(by omega)) := List.getElem?_eq_getElem _
            have hp : (l[j]).1[i]? = some ((l[j]).1[i]'(by rw [hlen _ (hq j _ hy).1]; exact hi)) := List.getElem?_eq_getElem _
            rw [h2 i hi, hfv j i _ _ _ hy hp hv, hv]
        · simp only [List.getElem?_map, Option.map_eq_some_iff] at hx
          obtain ⟨y, hy, rfl⟩ := hx
          have hi : i < y.2.length := by rw [(hq j y hy).2.1.1]; exact (List.getElem?_eq_some_iff.1 hp).1
          have hv : y.2[i]? = some (y.2[i]) := List.getElem?_eq_getElem hi
          rw [hfv j i y p _ hy hp hv]
          exact ((hq j y hy).2.1.2 i p _ hp hv).2⟩

/-- Parts one behind another. -/
def Parts : List (Nat × (List CV → Prop)) → List CV → Prop
  | [], pcs => pcs = []
  | (_, G) :: r, pcs => ∃ a b, pcs = a ++ b ∧ G a ∧ Parts r b
def total : List (Nat × (List CV → Prop)) → Nat
  | [] => 0
  | (n, _) :: r => n + total r
theorem parts_len : ∀ {l : List (Nat × (List CV → Prop))} {pcs : List CV}, (∀ x ∈ l, ∀ a, x.2 a → a.length = x.1) → Parts l pcs → pcs.length = total l
  | [], pcs, _, h => by rw [show pcs = [] from h]; rfl
  | (n, G) :: r, pcs, hl, ⟨a, b, e, ha, hb⟩ => by
    rw [e, List.length_append, hl (n, G) (by simp) a ha, parts_len (fun x hx => hl x (by simp [hx])) hb]
    rfl
theorem parts_open {w : World} : ∀ (l : List (Nat × (List CV → Prop))) (o : Nat) (cs : List Value), cs.length = o + total l →
    (∀ (i : Nat) (x : Nat × (List CV → Prop)), l[i]? = some x → ∃ pcs, x.2 pcs ∧ RelCs w pcs ((cs.drop (o + total (l.take i))).take x.1)) → ∃ pcs, Parts l pcs ∧ RelCs w pcs (cs.drop o)
  | [], o, cs, hl, _ => ⟨[], rfl, by rw [List.drop_eq_nil_of_le (by simp [total] at hl; omega)]; exact RelCs.nil⟩
  | (n, G) :: r, o, cs, hl, h => by
    obtain ⟨a, ha, ra⟩ := h 0 _ rfl
    simp only [List.take_zero, total, Nat.add_zero] at ra hl
    obtain ⟨b, hb, rb⟩ := parts_open r (o + n) cs (by omega) fun i x hx => by
      have := h (i + 1) x hx
      simp only [List.take_succ_cons, total] at this
      rw [show o + n + total (r.take i) = o + (n + total (r.take i)) by omega]
      exact this
    refine ⟨a ++ b, ⟨a, b, rfl, ha, hb⟩, ?_⟩
    have e : cs.drop o = (cs.drop o).take n ++ cs.drop (o + n) := by rw [← List.drop_drop, List.take_append_drop]
    rw [e]
    exact ra.append rb
theorem opens_struct {t : TypeId} {fs : Array Field} {l : List (Nat × (List CV → Prop))} (ht : P.underlying t = some (.struct fs)) (hc : P.cellsOf t = total l) (hl : fs.size = l.length)
    (h : ∀ (i : Nat) (f : Field) (x : Nat × (List CV → Prop)), fs[i]? = some f → l[i]? = some x → Opens P f.type x.1 x.2 ∧ f.offset = total (l.take i)) : Opens P t (total l) (Parts l) :=
  ⟨hc, fun pcs hp => parts_len (fun x hx a ha => by
    obtain ⟨i, hi⟩ := List.mem_iff_getElem?.1 hx
    have hlt := (List.getElem?_eq_some_iff.1 hi).1
    exact (h i _ x (Array.getElem?_eq_getElem (by omega)) hi).1.2.1 a ha) hp, fun H enc w fuel cs x hx => by
    obtain ⟨xs, n, _, _, hcs, hxl, hget⟩ := DataW.trod_struct ht hx
    have := parts_open (w := w) l 0 cs (by rw [hcs, hc, Nat.zero_add]) fun i y hy => by
      have hlt := (List.getElem?_eq_some_iff.1 hy).1
      have hf : fs[i]? = some (fs[i]'(by omega)) := Array.getElem?_eq_getElem _
      obtain ⟨ho, hoff⟩ := h i _ y hf hy
      have hg := hget i _ hf
      rw [List.getElem?_eq_getElem (by omega), ho.1, hoff] at hg
      rw [Nat.zero_add]
      exact ho.2.2 H enc w n _ _ hg
    simpa using this⟩
theorem opens_array {t e : TypeId} {n k : Nat} {G : List CV → Prop} (ht : P.underlying t = some (.array n e)) (hc : P.cellsOf t = total (List.replicate n (k, G))) (he : Opens P e k G) : Opens P t (total (List.replicate n (k, G))) (Parts (List.replicate n (k, G))) :=
  ⟨hc, fun pcs hp => parts_len (fun x hx a ha => by
    rw [List.eq_of_mem_replicate hx] at ha ⊢
    exact he.2.1 a ha) hp, fun H enc w fuel cs x hx => by
    obtain ⟨xs, m, _, _, hcs, hxl, hget⟩ := DataW.trod_array ht hx
    have htot : ∀ i, total (List.replicate i (k, G)) = i * k := by
      intro i
      induction i with
      | zero => simp [total]
      | succ i ih => rw [List.replicate_succ]; simp only [total]; rw [ih, Nat.succ_mul, Nat.add_comm]
    have := parts_open (w := w) (List.replicate n (k, G)) 0 cs (by rw [hcs, hc, Nat.zero_add]) fun i y hy => by
      have hlt : i < n := by simpa using (List.getElem?_eq_some_iff.1 hy).1
      have hy' : y = (k, G) := by
        rw [List.getElem?_replicate, if_pos hlt] at hy
        exact (Option.some.inj hy).symm
      subst hy'
      have hg := hget i hlt
      rw [List.getElem?_eq_getElem (by omega), he.1] at hg
      rw [Nat.zero_add, List.take_replicate, Nat.min_eq_left (by omega), htot]
      exact he.2.2 H enc w m _ _ hg
    simpa using this⟩

/-- An argument. -/
def argOf (n : Nat) (pcs : List CV) (agg : Bool) : PV := if agg = true then .agg (pcs.map .c) else match pcs with
  | [p] => .c p
  | _ => .undef
end Go.PM
