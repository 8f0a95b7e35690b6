/-
  Rows of strings that the call itself made, with what lies behind their length: an append in place touches no string of 64 octets.
-/
import Derived.Test.YtogonkoeginoaaaGreatDoorApp
namespace Go.Proofs.YtogonkoeginoaaaGreatDoor
open Go.RowKit

theorem grown_setCell (w : World) (b i : Nat) (u : Value) : w.grownBy (w.setCell ⟨b, i, none⟩ u) (some b) :=
  ⟨rfl, rfl, rfl, by simp, fun k _ hne => heap_setCell_other w ⟨b, i, none⟩ k u (fun e => hne (by rw [e]))⟩
/-- Every string of 64 octets stays where it lay. -/
def Keeps64 (w w' : World) : Prop := ∀ b j (c : List UInt8), c.length = 64 → w.cell? ⟨b, j, none⟩ = some (.string (bs c)) → w'.cell? ⟨b, j, none⟩ = some (.string (bs c))

theorem Row.keeps64 {w w' : World} {ao : Option Addr} {xs : List (List UInt8)} (h : Row w ao (strVals xs)) (hk : Keeps64 w w') (hx : ∀ c ∈ xs, c.length = 64) : Row w' ao (strVals xs) := by
  refine h.imp id ?_
  rintro ⟨b, off, e, hc⟩
  refine ⟨b, off, e, fun j v hj => ?_⟩
  have h1 := hc j v hj
  have hm : v ∈ strVals xs := List.mem_of_getElem? hj
  obtain ⟨c, hcx, rfl⟩ := List.mem_map.1 hm
  exact hk b (off + j) c (hx c hcx) h1
theorem IsDrive.keeps64 {w w' : World} {v : Value} {d : Drv} (h : IsDrive w v d) (hk : Keeps64 w w') (hx : ∀ c ∈ d.cells, c.length = 64) (hq : d.queue = []) : IsDrive w' v d := by
  obtain ⟨a1, n1, c1, a2, n2, c2, fuel, off, e, hd⟩ := h
  refine ⟨a1, n1, c1, a2, n2, c2, fuel, off, e, ⟨⟨hd.cells.len, hd.cells.row.keeps64 hk hx⟩, ⟨hd.queue.len, hd.queue.range, ?_⟩, hd.room1, hd.room2, hd.fuel_eq, hd.off_eq, hd.range⟩⟩
  rw [hq]
  exact .inl rfl
theorem IsDrive.keepsMay {w w' : World} {v : Value} {cs : List (List UInt8)} {f : Int} {o : Bool} (h : IsDrive w v ⟨cs, [], f, o⟩) (hk : Keeps64 w w') (hx : ∀ c ∈ cs, c.length = 64) : IsDrive w' v ⟨cs, [], f, o⟩ := h.keeps64 hk hx rfl

/-- What lies behind a row's length satisfies Z. -/
def OwnZ (w : World) (base : Nat) (e : TypeId) (size : Nat) (Z : Value → Prop) (v : Value) (n : Nat) (xs : List Value) : Prop :=
  w.ownsRow base e size v n xs ∧ ∀ g cur fr, v.ownBlock = some g → w.heap[g]? = some (.cells cur e fr) → ∀ u ∈ cur.toList.drop (n * size), Z u

theorem OwnZ.nil (w : World) (base : Nat) (e : TypeId) (size : Nat) (Z : Value → Prop) : OwnZ w base e size Z (.slice none 0 0) 0 [] := ⟨World.ownsRow_nil _ _ _ _, fun g _ _ h => by cases h⟩
theorem OwnZ.below {w w' : World} {base : Nat} {e : TypeId} {size : Nat} {Z : Value → Prop} {v : Value} {n : Nat} {xs : List Value} (h : OwnZ w base e size Z v n xs) (hb : Below w.heap.size w w') : OwnZ w' base e size Z v n xs := by
  refine ⟨own_below h.1 hb, fun g cur fr hg hh => ?_⟩
  have hlt := (h.1.lt g hg).2
  rw [hb.block g hlt] at hh
  exact h.2 g cur fr hg hh
theorem OwnZ.kept {w w' : World} {base : Nat} {e : TypeId} {size : Nat} {Z : Value → Prop} {v : Value} {n : Nat} {xs : List Value} {row : Option Nat} (h : OwnZ w base e size Z v n xs) (hg : w.grownBy w' row) (hne : v.ownBlock = none ∨ v.ownBlock ≠ row) : OwnZ w' base e size Z v n xs := by
  refine ⟨h.1.kept hg hne, fun g cur fr hgg hh => ?_⟩
  have hlt := (h.1.lt g hgg).2
  rw [hg.block g hlt (by rcases hne with h1 | h1
                         · rw [hgg] at h1; cases h1
                         · rw [hgg] at h1; exact h1)] at hh
  exact h.2 g cur fr hgg hh
/-- A store to a box of another type. -/
theorem OwnZ.set {w : World} {base : Nat} {e : TypeId} {size : Nat} {Z : Value → Prop} {v : Value} {n : Nat} {xs : List Value} (h : OwnZ w base e size Z v n xs) {b : Nat} {vs : List Value} {t : TypeId} (hb : Blk w b vs t) (hne : t ≠ e) (i : Nat) (u : Value) : OwnZ (w.setCell ⟨b, i, none⟩ u) base e size Z v n xs := by
  refine h.kept (row := some b) (grown_setCell w b i u) ?_
  rcases h.1.2 with ⟨rfl, _⟩ | ⟨g, cap, cur, rfl, _, hg, _⟩
  · exact .inl rfl
  · refine .inr fun e2 => hne ?_
    injection e2 with e2
    subst e2
    unfold Blk at hb
    rw [hg] at hb
    injection hb with hb
    injection hb with _ hb _
    exact hb.symm

theorem mem_zeroCells {z : Array Value} {n : Nat} {u : Value} (h : u ∈ Builtin.zeroCells z n) : u ∈ z := by
  unfold Builtin.zeroCells at h
  rw [Array.mem_map] at h
  obtain ⟨i, hi, rfl⟩ := h
  have hi2 : i < n * z.size := by simpa using hi
  have hz : 0 < z.size := by
    rcases Nat.eq_zero_or_pos z.size with h | h
    · rw [h] at hi2; omega
    · exact h
  have hm := Nat.mod_lt i hz
  rw [getElem!_pos z (i % z.size) hm]
  exact Array.getElem_mem hm

/-- 'append(dst, src...)' where what lies behind dst's length satisfies Z, and no string of 64 octets does. -/
theorem run_appZ {P : Program} (w : World) (base : Nat) (t ty e : TypeId) (i : TypeInfo) (z : Value) (size bytes : Nat) (Z : Value → Prop) (hZz : ∀ u ∈ z.cells, Z u) (hZ64 : ∀ u, Z u → ∀ c : List UInt8, c.length = 64 → u ≠ .string (bs c)) (ht : P.underlying t = some (.slice e)) (hi : P.info? e = some i) (hz : i.zero = some z)
    (hsize : i.size = size) (hby : i.bytes = bytes) (hzs : z.cells.size = size) (hsz : 0 < size) (v : Value) (n : Nat) (xs : List Value) (hown : OwnZ w base e size Z v n xs)
    (A : Option Addr) (m c : Nat) (news : List Value) (hl : news.length = m * size) (hr : Row w A news) (h1 : ∀ u ∈ news, u.oneCell' = true)
    (h63 : n + m ≤ maxLen) (hbytes : (n + m) * bytes ≤ 140737488355328) (hbase : base ≤ w.heap.size) :
    ∃ v' w', (Builtin.append_ #[t, t] ty #[v, .slice A m c]).run P w = .ok v' w' ∧ OwnZ w' base e size Z v' (n + m) (xs ++ news) ∧ w.grownBy w' v.ownBlock ∧ Keeps64 w w' ∧ (v'.ownBlock = v.ownBlock ∨ v'.ownBlock = some w.heap.size) := by
  subst hsize
  subst hby
  have hsmall : n + m ≤ 9223372036854775807 := by simp only [maxLen] at h63; omega
  obtain ⟨hlx, hcase⟩ := hown.1
  have hlen : (xs ++ news).length = (n + m) * i.size := by rw [List.length_append, hlx, hl, Nat.add_mul]
  have hk0 : Keeps64 w w := fun b j c _ h => h
  by_cases hm : m = 0
  · subst hm
    have hn0 : news = [] := List.eq_nil_of_length_eq_zero (by simpa using hl)
    subst hn0
    have hrun : (Builtin.append_ #[t, t] ty #[v, .slice A 0 c]).run P w = .ok v w := by
      rcases hcase with ⟨rfl, rfl⟩ | ⟨g, cap, cur, rfl, _, _, hnc, _⟩
      · cases A <;> simp [Builtin.append_, run_underlying ht, sizeOf, typeInfo, hi, Builtin.lenOf, Builtin.firstCells, loadCells, loadCellsFrom]
      · cases A <;> simp [Builtin.append_, run_underlying ht, sizeOf, typeInfo, hi, Builtin.lenOf, Builtin.firstCells, hnc, storeCells, loadCells, loadCellsFrom]
    exact ⟨v, w, hrun, by simpa using hown, World.grownBy.refl w _, hk0, .inl rfl⟩
  · obtain ⟨ad, rfl, hcells⟩ : ∃ ad, A = some ad ∧ ∀ j u, news[j]? = some u → w.cell? (ad.add j) = some u := by
      rcases hr with h | ⟨b, off, h, hc⟩
      · subst h
        have := Nat.mul_pos (Nat.pos_of_ne_zero hm) hsz
        simp at hl
        omega
      · subst h
        exact ⟨_, rfl, fun j u hu => by rw [Addr.add_lit]; exact hc j u hu⟩
    have grown : ∀ (old : Nat), old < n + m → ∀ (row : Option Nat),
        OwnZ (w.drew.alloc (.cells (xs.toArray ++ news.toArray ++ Builtin.zeroCells z.cells (grownCap w (n + m) old e - (n + m))) e)) base e i.size Z
          (.slice (some ⟨w.heap.size, 0, none⟩) (n + m) (grownCap w (n + m) old e)) (n + m) (xs ++ news) ∧
        w.grownBy (w.drew.alloc (.cells (xs.toArray ++ news.toArray ++ Builtin.zeroCells z.cells (grownCap w (n + m) old e - (n + m))) e)) row ∧
        Keeps64 w (w.drew.alloc (.cells (xs.toArray ++ news.toArray ++ Builtin.zeroCells z.cells (grownCap w (n + m) old e - (n + m))) e)) := by
      intro old ho row
      have hge := grownCap_ge w (n + m) old e
      have hcm : grownCap w (n + m) old e ≤ maxLen := grownCap_le_maxLen w (n + m) old e h63
      have hnew := heap_alloc_new w.drew (.cells (xs.toArray ++ news.toArray ++ Builtin.zeroCells z.cells (grownCap w (n + m) old e - (n + m))) e)
      have hcat : (xs.toArray ++ news.toArray ++ Builtin.zeroCells z.cells (grownCap w (n + m) old e - (n + m))).toList = (xs ++ news) ++ (Builtin.zeroCells z.cells (grownCap w (n + m) old e - (n + m))).toList := by
        simp only [Array.toList_append]
      refine ⟨⟨⟨hlen, .inr ⟨w.heap.size, _, _, rfl, hbase, hnew, hge, hcm, ?_, ?_⟩⟩, ?_⟩, ⟨rfl, rfl, rfl, by simp, fun k hk _ => heap_alloc_old w.drew _ hk⟩, ?_⟩
      · simp only [Array.size_append, List.size_toArray, size_zeroCells, hzs, hlx, hl, ← Nat.add_mul]
        congr 1
        omega
      · rw [hcat, ← hlen]
        exact List.take_left
      · intro g cur fr hg hh u hu
        injection hg with hg
        simp only at hg
        subst hg
        have e1 : w.drew.heap.size = w.heap.size := rfl
        rw [← e1, hnew] at hh
        injection hh with hh
        injection hh with hh _ _
        subst hh
        rw [hcat, ← hlen, List.drop_left] at hu
        have hu2 : u ∈ Builtin.zeroCells z.cells (grownCap w (n + m) old e - (n + m)) := by simpa using hu
        exact hZz u (mem_zeroCells hu2)
      · intro b j c _ hb
        have hlt := World.block_lt_of_cell? w _ hb
        have : (w.drew.alloc (.cells (xs.toArray ++ news.toArray ++ Builtin.zeroCells z.cells (grownCap w (n + m) old e - (n + m))) e)).cell? ⟨b, j, none⟩ = w.cell? ⟨b, j, none⟩ :=
          World.cell?_of_block (heap_alloc_old w.drew _ hlt)
        rw [this]
        exact hb
    rcases hcase with ⟨rfl, rfl⟩ | ⟨g, cap, cur, rfl, hbg, hg, hnc, hcm, hcs, htake⟩
    · have hx : xs = [] := List.eq_nil_of_length_eq_zero (by simpa using hlx)
      subst hx
      have hr := run_append_nil (P := P) w t ty e i z ht hi hz ad m c news hl hcells (by omega) (by omega) (by have hb := hbytes; simp only [Nat.zero_add] at hb; omega)
      have hgr := grown 0 (by omega) (Value.ownBlock (.slice none 0 0))
      simp only [Nat.zero_add, List.nil_append, Array.empty_append] at hgr ⊢
      exact ⟨_, _, hr, hgr.1, hgr.2.1, hgr.2.2, Or.inr rfl⟩
    · by_cases hroom : n + m ≤ cap
      · have hfit : n * i.size + news.length ≤ cur.size := by rw [hl, hcs, ← Nat.add_mul]; exact Nat.mul_le_mul_right _ hroom
        have hr := run_append_room (P := P) w t ty e i ht hi g n cap cur hg ad m c news hl hcells h1 hroom hfit
        have hrow := setRow_heap w g cur (cur.toList.take (n * i.size) ++ news ++ cur.toList.drop (n * i.size + news.length)).toArray e _ hg
        refine ⟨_, _, hr, ⟨⟨hlen, .inr ⟨g, cap, _, rfl, hbg, hrow, hroom, hcm, ?_, ?_⟩⟩, ?_⟩, ⟨rfl, rfl, rfl, by simp, fun k _ hk => setRow_other w g k _ (fun e => hk (by simp [Value.ownBlock, e]))⟩, ?_, Or.inl rfl⟩
        · simp only [List.size_toArray, List.length_append, List.length_take, List.length_drop, Array.length_toList]
          omega
        · rw [htake, ← hlen]
          exact List.take_left
        · intro g2 cur2 fr hg2 hh u hu
          injection hg2 with hg2
          simp only at hg2
          subst hg2
          rw [hrow] at hh
          injection hh with hh
          injection hh with hh _ _
          subst hh
          simp only at hu
          rw [htake, ← hlen, List.drop_left] at hu
          refine hown.2 g cur _ rfl hg u ?_
          rw [← List.drop_drop] at hu
          exact List.mem_of_mem_drop hu
        · intro b j x hx hb
          by_cases hbg2 : b = g
          · subst hbg2
            rw [cell_of_row w b j cur e (0, 0) hg] at hb
            rw [cell_of_row _ b j _ e (0, 0) hrow]
            have hj : j < n * i.size := by
              rcases Nat.lt_or_ge j (n * i.size) with h | h
              · exact h
              · have hm2 : Value.string (bs x) ∈ cur.toList.drop (n * i.size) := by
                  refine List.mem_of_getElem? (i := j - n * i.size) ?_
                  rw [List.getElem?_drop, show n * i.size + (j - n * i.size) = j by omega]
                  simpa using hb
                exact absurd rfl (hZ64 _ (hown.2 b cur _ rfl hg _ hm2) x hx)
            have hjc : j < cur.size := by
              have := (Array.getElem?_eq_some_iff.1 hb).1
              exact this
            rw [List.getElem?_toArray, List.append_assoc, List.getElem?_append_left (by rw [List.length_take, Array.length_toList]; omega), List.getElem?_take, if_pos hj]
            simpa using hb
          · have : (w.setRow g (cur.toList.take (n * i.size) ++ news ++ cur.toList.drop (n * i.size + news.length)).toArray).cell? ⟨b, j, none⟩ = w.cell? ⟨b, j, none⟩ :=
              World.cell?_of_block (setRow_other w g b _ hbg2)
            rw [this]
            exact hb
      · have holds : ∀ j u, xs[j]? = some u → w.cell? ((⟨g, 0, none⟩ : Addr).add j) = some u := hown.1.cells (g := g) rfl
        have hr := run_append_grow (P := P) w t ty e i z ht hi hz ⟨g, 0, none⟩ n cap xs hlx holds ad m c news hl hcells (by omega) (by omega) (growslice_fits (by omega) hbytes)
        have hgr := grown cap (by omega) (Value.ownBlock (.slice (some ⟨g, 0, none⟩) n cap))
        exact ⟨_, _, hr, hgr.1, hgr.2.1, hgr.2.2, Or.inr rfl⟩

theorem wp_appZ {P : Program} {w : World} {o : Oper} {a : Act} {K : Act → World → Prop} {Q : Exit → Act → World → Prop} (s x : Operand) (t : TypeId)
    (ho : o.op = .call { callee := .builtin .append, args := #[s, x], argTypes := #[t, t] })
    (base : Nat) (e : TypeId) (i : TypeInfo) (z : Value) (size bytes : Nat) (Z : Value → Prop) (hZz : ∀ u ∈ z.cells, Z u) (hZ64 : ∀ u, Z u → ∀ c : List UInt8, c.length = 64 → u ≠ .string (bs c)) (ht : P.underlying t = some (.slice e)) (hi : P.info? e = some i) (hz : i.zero = some z)
    (hsize : i.size = size) (hby : i.bytes = bytes) (hzs : z.cells.size = size) (hsz : 0 < size) (v : Value) (n : Nat) (xs : List Value) (hs : a.eval s = v) (hown : OwnZ w base e size Z v n xs)
    (A : Option Addr) (m c : Nat) (news : List Value) (hx : a.eval x = .slice A m c) (hl : news.length = m * size) (hr : Row w A news) (h1 : ∀ u ∈ news, u.oneCell' = true)
    (h63 : n + m ≤ maxLen) (hbytes : (n + m) * bytes ≤ 140737488355328) (hbase : base ≤ w.heap.size)
    (h : ∀ v' w', OwnZ w' base e size Z v' (n + m) (xs ++ news) → w.grownBy w' v.ownBlock → Keeps64 w w' → (v'.ownBlock = v.ownBlock ∨ v'.ownBlock = some w.heap.size) → K (a.put o.dst v') w') : o.wp P a w K Q := by
  obtain ⟨v', w', hrun, h2, h3, h4, h5⟩ := run_appZ (P := P) w base t o.type e i z size bytes Z hZz hZ64 ht hi hz hsize hby hzs hsz v n xs hown A m c news hl hr h1 h63 hbytes hbase
  unfold Oper.wp execOp
  simp only [ho, resolve, invoke, builtin, Sem.run_bind, Sem.run_pure, Result.andThen_ok, List.map_toArray, List.map_cons, List.map_nil, hs, hx, hrun]
  exact h v' w' h2 h3 h4 h5

/-- A row of strings that the call made, with octets "" behind it. -/
def ZS (u : Value) : Prop := u = .string ByteArray.empty
def OwnS (w : World) (base : Nat) (v : Value) (xs : List (List UInt8)) : Prop := OwnZ w base 9 1 ZS v xs.length (strVals xs)

theorem zs64 : ∀ u, ZS u → ∀ c : List UInt8, c.length = 64 → u ≠ .string (bs c) := by
  rintro u rfl c hc e
  injection e with e
  have h1 : (bs c).data.toList = c := rfl
  rw [← e] at h1
  have h2 : c = [] := h1.symm
  rw [h2] at hc
  cases hc
theorem wpList_appS {w : World} {ops : Array Oper} {rest : List Oper} {o : Oper} {a : Act} {Q : Exit → Act → World → Prop} (hgd : o.guard = none) (s x : Operand)
    (ho : o.op = .call { callee := .builtin .append, args := #[s, x], argTypes := #[32, 32] })
    (base : Nat) (v : Value) (xs : List (List UInt8)) (hs : a.eval s = v) (hown : OwnS w base v xs)
    (A : Option Addr) (m c : Nat) (news : List (List UInt8)) (hx : a.eval x = .slice A m c) (hl : news.length = m) (hr : Row w A (strVals news)) (h63 : xs.length + m ≤ 1000000) (hbase : base ≤ w.heap.size)
    (h : ∀ v' w', OwnS w' base v' (xs ++ news) → w.grownBy w' v.ownBlock → Keeps64 w w' → (v'.ownBlock = v.ownBlock ∨ v'.ownBlock = some w.heap.size) → wpList Tryz.prog ops Q rest (a.put o.dst v') w') : wpList Tryz.prog ops Q (o :: rest) a w := by
  obtain ⟨i0, hi, hz0, hz1, hz2⟩ := info_parts info_str
  refine wpList_plain hgd fun K hK => wp_appZ s x _ ho base 9 i0 (.string ByteArray.empty) 1 16 ZS (by simp [ZS, Value.cells]) zs64 Tryz.underlying32 hi hz0 hz1 hz2 rfl (by decide) v xs.length (strVals xs) hs hown A m c (strVals news) hx (by rw [strVals_length, hl]; omega) hr (strVals_one news) (by unfold maxLen; omega) (by omega) hbase fun v' w' h2 h3 h4 h5 => hK _ _ (h v' w' ?_ h3 h4 h5)
  unfold OwnS
  rw [strVals_append, List.length_append, hl]
  exact h2

theorem OwnZ.base {w : World} {base base' : Nat} {e : TypeId} {size : Nat} {Z : Value → Prop} {v : Value} {n : Nat} {xs : List Value} (h : OwnZ w base e size Z v n xs) (hb : base' ≤ base) : OwnZ w base' e size Z v n xs := by
  refine ⟨⟨h.1.1, ?_⟩, h.2⟩
  rcases h.1.2 with h1 | ⟨g, cap, cur, h1, h2, h3⟩
  · exact .inl h1
  · exact .inr ⟨g, cap, cur, h1, Nat.le_trans hb h2, h3⟩
theorem OwnZ.set4 {w : World} {base : Nat} {e : TypeId} {size : Nat} {Z : Value → Prop} {v : Value} {n : Nat} {xs : List Value} (h : OwnZ w base e size Z v n xs) {b : Nat} {u0 u1 u2 u3 : Value} {t : TypeId} (hb : Blk w b [u0, u1, u2, u3] t) (hne : t ≠ e) (v0 v1 v2 v3 : Value) : OwnZ ((((w.setCell ⟨b, 0, none⟩ v0).setCell ⟨b, 1, none⟩ v1).setCell ⟨b, 2, none⟩ v2).setCell ⟨b, 3, none⟩ v3) base e size Z v n xs :=
  (((h.set hb hne 0 v0).set (hb.set 0 v0) hne 1 v1).set ((hb.set 0 v0).set 1 v1) hne 2 v2).set (((hb.set 0 v0).set 1 v1).set 2 v2) hne 3 v3
theorem OwnS.nil (w : World) (base : Nat) : OwnS w base (.slice none 0 0) [] := OwnZ.nil _ _ _ _ _
theorem OwnS.empty {w : World} {base b : Nat} (h : Blk w b [] 9) (hb : base ≤ b) : OwnS w base (.slice (some ⟨b, 0, none⟩) 0 0) [] := by
  refine ⟨own_empty h hb, fun g cur fr hg hh u hu => ?_⟩
  injection hg with hg
  simp only at hg
  subst hg
  unfold Blk at h
  rw [h] at hh
  injection hh with hh
  injection hh with hh _ _
  subst hh
  simp at hu
theorem OwnS.form {w : World} {base : Nat} {v : Value} {xs : List (List UInt8)} (h : OwnS w base v xs) : ∃ ao c, v = .slice ao xs.length c ∧ xs.length ≤ c ∧ c ≤ 9223372036854775807 ∧ Strs w ao xs.length xs := by
  obtain ⟨ao, c, h1, h2, h3, h4, _⟩ := own_form h.1
  exact ⟨ao, c, h1, h2, h3, rfl, h4⟩

end Go.Proofs.YtogonkoeginoaaaGreatDoor
