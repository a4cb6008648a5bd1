/- Chapter 8's plain law, further: what is written is read as it was; one byte turned is none; another size is none. -/
import Derived.Test.YthfghomnbldmfaaRows
import Derived.Test.YthfghomnbldmfaaSupLaw
import Derived.Test.YthfghomnbldmfaaSupRefPut
namespace Go.Proofs.Ythfghomnbldmfaa
set_option linter.unusedVariables false
set_option linter.unusedSimpArgs false
open Go.RowKit

theorem piece (P Q R : List UInt8) (i n : Nat) (hi : P.length = i) (hn : Q.length = n) : ((P ++ (Q ++ R)).drop i).take n = Q := by
  subst hi hn
  rw [List.drop_left, List.take_left]
theorem fld_enc (P R : List UInt8) (v : Int) (i n : Nat) (hi : P.length = i) (h0 : 0 ≤ v) (h1 : v.toNat < 256 ^ n) : ((fld (P ++ (Cur.leBytes v.toNat n ++ R)) i n : Nat) : Int) = v := by
  rw [fld, piece P _ R i n hi (Cur.leBytes_length _ _), Cur.le_bytes_lt _ _ h1]
  omega
theorem fld_enc4 (P R : List UInt8) (v : Int) (i : Nat) (hi : P.length = i) (h : 0 ≤ v ∧ v < 4294967296) : ((fld (P ++ (Cur.leBytes v.toNat 4 ++ R)) i 4 : Nat) : Int) = v := fld_enc P R v i 4 hi h.1 (by omega)
theorem fld_enc2 (P R : List UInt8) (v : Int) (i : Nat) (hi : P.length = i) (h : 0 ≤ v ∧ v < 65536) : ((fld (P ++ (Cur.leBytes v.toNat 2 ++ R)) i 2 : Nat) : Int) = v := fld_enc P R v i 2 hi h.1 (by omega)
theorem dec_enc {s : Sup} (h : SupP s) : decS (enc s) = s := by
  obtain ⟨f0, f2, f3, f4, f5, f6, f9, f1, f7, f8⟩ := sup_fits h
  obtain ⟨R, hR⟩ : ∃ R, enc s = enc38 s ++ R := ⟨_, by unfold enc; rw [List.append_assoc]⟩
  have hsp := enc38_spelt s
  have hl : ∀ (x : Int) (n : Nat), (Cur.leBytes x.toNat n).length = n := fun x n => Cur.leBytes_length _ _
  have e0 := fld_enc4 magic (Cur.leBytes s.inodeAt.toNat 4 ++ (Cur.leBytes s.dirAt.toNat 4 ++ (Cur.leBytes s.fragAt.toNat 4 ++ (Cur.leBytes s.idAt.toNat 4 ++ (Cur.leBytes s.xattrAt.toNat 4 ++ (Cur.leBytes s.root.toNat 4 ++ (Cur.leBytes s.inodes.toNat 2 ++ (Cur.leBytes s.ids.toNat 2 ++ (Cur.leBytes s.frags.toNat 2 ++ R))))))))) s.size 4 rfl f0
  have e2 := fld_enc4 (magic ++ Cur.leBytes s.size.toNat 4) (Cur.leBytes s.dirAt.toNat 4 ++ (Cur.leBytes s.fragAt.toNat 4 ++ (Cur.leBytes s.idAt.toNat 4 ++ (Cur.leBytes s.xattrAt.toNat 4 ++ (Cur.leBytes s.root.toNat 4 ++ (Cur.leBytes s.inodes.toNat 2 ++ (Cur.leBytes s.ids.toNat 2 ++ (Cur.leBytes s.frags.toNat 2 ++ R)))))))) s.inodeAt 8 (by simp [hl, magic]) f2
  have e3 := fld_enc4 (magic ++ Cur.leBytes s.size.toNat 4 ++ Cur.leBytes s.inodeAt.toNat 4) (Cur.leBytes s.fragAt.toNat 4 ++ (Cur.leBytes s.idAt.toNat 4 ++ (Cur.leBytes s.xattrAt.toNat 4 ++ (Cur.leBytes s.root.toNat 4 ++ (Cur.leBytes s.inodes.toNat 2 ++ (Cur.leBytes s.ids.toNat 2 ++ (Cur.leBytes s.frags.toNat 2 ++ R))))))) s.dirAt 12 (by simp [hl, magic]) f3
  have e4 := fld_enc4 (magic ++ Cur.leBytes s.size.toNat 4 ++ Cur.leBytes s.inodeAt.toNat 4 ++ Cur.leBytes s.dirAt.toNat 4) (Cur.leBytes s.idAt.toNat 4 ++ (Cur.leBytes s.xattrAt.toNat 4 ++ (Cur.leBytes s.root.toNat 4 ++ (Cur.leBytes s.inodes.toNat 2 ++ (Cur.leBytes s.ids.toNat 2 ++ (Cur.leBytes s.frags.toNat 2 ++ R)))))) s.fragAt 16 (by simp [hl, magic]) f4
  have e5 := fld_enc4 (magic ++ Cur.leBytes s.size.toNat 4 ++ Cur.leBytes s.inodeAt.toNat 4 ++ Cur.leBytes s.dirAt.toNat 4 ++ Cur.leBytes s.fragAt.toNat 4) (Cur.leBytes s.xattrAt.toNat 4 ++ (Cur.leBytes s.root.toNat 4 ++ (Cur.leBytes s.inodes.toNat 2 ++ (Cur.leBytes s.ids.toNat 2 ++ (Cur.leBytes s.frags.toNat 2 ++ R))))) s.idAt 20 (by simp [hl, magic]) f5
  have e6 := fld_enc4 (magic ++ Cur.leBytes s.size.toNat 4 ++ Cur.leBytes s.inodeAt.toNat 4 ++ Cur.leBytes s.dirAt.toNat 4 ++ Cur.leBytes s.fragAt.toNat 4 ++ Cur.leBytes s.idAt.toNat 4) (Cur.leBytes s.root.toNat 4 ++ (Cur.leBytes s.inodes.toNat 2 ++ (Cur.leBytes s.ids.toNat 2 ++ (Cur.leBytes s.frags.toNat 2 ++ R)))) s.xattrAt 24 (by simp [hl, magic]) f6
  have e9 := fld_enc4 (magic ++ Cur.leBytes s.size.toNat 4 ++ Cur.leBytes s.inodeAt.toNat 4 ++ Cur.leBytes s.dirAt.toNat 4 ++ Cur.leBytes s.fragAt.toNat 4 ++ Cur.leBytes s.idAt.toNat 4 ++ Cur.leBytes s.xattrAt.toNat 4) (Cur.leBytes s.inodes.toNat 2 ++ (Cur.leBytes s.ids.toNat 2 ++ (Cur.leBytes s.frags.toNat 2 ++ R))) s.root 28 (by simp [hl, magic]) f9
  have e1 := fld_enc2 (magic ++ Cur.leBytes s.size.toNat 4 ++ Cur.leBytes s.inodeAt.toNat 4 ++ Cur.leBytes s.dirAt.toNat 4 ++ Cur.leBytes s.fragAt.toNat 4 ++ Cur.leBytes s.idAt.toNat 4 ++ Cur.leBytes s.xattrAt.toNat 4 ++ Cur.leBytes s.root.toNat 4) (Cur.leBytes s.ids.toNat 2 ++ (Cur.leBytes s.frags.toNat 2 ++ R)) s.inodes 32 (by simp [hl, magic]) f1
  have e7 := fld_enc2 (magic ++ Cur.leBytes s.size.toNat 4 ++ Cur.leBytes s.inodeAt.toNat 4 ++ Cur.leBytes s.dirAt.toNat 4 ++ Cur.leBytes s.fragAt.toNat 4 ++ Cur.leBytes s.idAt.toNat 4 ++ Cur.leBytes s.xattrAt.toNat 4 ++ Cur.leBytes s.root.toNat 4 ++ Cur.leBytes s.inodes.toNat 2) (Cur.leBytes s.frags.toNat 2 ++ R) s.ids 34 (by simp [hl, magic]) f7
  have e8 := fld_enc2 (magic ++ Cur.leBytes s.size.toNat 4 ++ Cur.leBytes s.inodeAt.toNat 4 ++ Cur.leBytes s.dirAt.toNat 4 ++ Cur.leBytes s.fragAt.toNat 4 ++ Cur.leBytes s.idAt.toNat 4 ++ Cur.leBytes s.xattrAt.toNat 4 ++ Cur.leBytes s.root.toNat 4 ++ Cur.leBytes s.inodes.toNat 2 ++ Cur.leBytes s.ids.toNat 2) R s.frags 36 (by simp [hl, magic]) f8
  rw [hR, ← hsp]
  simp only [List.append_assoc] at e0 e2 e3 e4 e5 e6 e9 e1 e7 e8 ⊢
  unfold decS
  rw [e0, e2, e3, e4, e5, e6, e9, e1, e7, e8]
/-- What stands behind a superblock that may be, of its own size: it is read. -/
theorem enc_ok {s : Sup} (h : SupP s) (rest : List UInt8) (hs : s.size = ((64 + rest.length : Nat) : Int)) : tkOk (enc s ++ rest) ∧ takeS (enc s ++ rest) = s := by
  have hl := enc_length s
  have ht : (enc s ++ rest).take 64 = enc s := by rw [← hl, List.take_left]
  have h64 : 64 ≤ (enc s ++ rest).length := by rw [List.length_append]; omega
  have hok : tkOk (enc s ++ rest) := (tkOk_iff _).2 (by
    unfold docOk
    rw [ht, dec_enc h]
    exact ⟨h64, (supB_iff s).2 h, rfl, by rw [hs, List.length_append, hl]⟩)
  refine ⟨hok, ?_⟩
  unfold takeS
  rw [if_pos hok, tkN_dec _ h64, ht, dec_enc h]
theorem ok_size {bs : List UInt8} (h : tkOk bs) : (decS (bs.take 64)).size = bs.length := ((tkOk_iff bs).1 h).2.2.2
/-- Another size: none. -/
theorem enc_other {s : Sup} (h : SupP s) (bs : List UInt8) (hp : 64 ≤ bs.length → bs.take 64 = enc s) (hs : s.size ≠ (bs.length : Nat)) : ¬ tkOk bs := fun hok => by
  have h64 := hok.1
  have := ok_size hok
  rw [hp h64, dec_enc h] at this
  exact hs this
theorem set_split (ds : List UInt8) (k : Nat) (hk : k < ds.length) (y : UInt8) : ds = ds.take k ++ ds.getD k 0 :: ds.drop (k + 1) ∧ ds.set k y = ds.take k ++ y :: ds.drop (k + 1) := by
  refine ⟨?_, List.set_eq_take_append_cons_drop.trans (by rw [if_pos hk])⟩
  have h : ds.getD k 0 = ds[k] := by simp [List.getD_eq_getElem?_getD, List.getElem?_eq_getElem hk]
  rw [h, List.getElem_cons_drop, List.take_append_drop]
theorem xor_ne (d x : UInt8) (hx : x ≠ 0) : d ^^^ x ≠ d := fun h3 => hx (by
  have h4 : d ^^^ (d ^^^ x) = d ^^^ d := by rw [h3]
  rwa [← UInt8.xor_assoc, UInt8.xor_self, UInt8.zero_xor] at h4)
theorem sum_set (ds : List UInt8) (k : Nat) (hk : k < ds.length) (y : UInt8) (hy : y ≠ ds.getD k 0) : Crc.sum (ds.set k y) ≠ Crc.sum ds := by
  intro h
  obtain ⟨h1, h2⟩ := set_split ds k hk y
  generalize ds.getD k 0 = d at *
  rw [h2] at h
  conv at h => rhs; rw [h1]
  exact hy (Crc.sum_turned _ _ _ _ h)
/-- One byte turned: none. -/
theorem turned_bad (s : Sup) (k : Nat) (hk : k < 64) (y : UInt8) (hy : y ≠ (enc s).getD k 0) : ¬ tkOk ((enc s).set k y) := fun hok => by
  have hl := enc_length s
  have hl2 : ((enc s).set k y).length = 64 := by rw [List.length_set, hl]
  obtain ⟨_, _, he, _⟩ := (tkOk_iff _).1 hok
  rw [List.take_of_length_le (by omega)] at he
  generalize decS ((enc s).set k y) = s2 at he
  obtain ⟨a1, a2⟩ := enc_parts s
  obtain ⟨b1, b2⟩ := enc_parts s2
  rw [he] at b1 b2
  rcases Nat.lt_or_ge k 38 with h | h
  · rw [List.drop_set_of_lt h, a2] at b2
    have h4 : Cur.leBytes (Crc.sum (enc38 s)) 4 = Cur.leBytes (Crc.sum (enc38 s2)) 4 := by
      have := congrArg (List.take 4) b2
      rw [List.take_append_of_le_length (by rw [Cur.leBytes_length]; omega), List.take_append_of_le_length (by rw [Cur.leBytes_length]; omega), List.take_of_length_le (by rw [Cur.leBytes_length]; omega), List.take_of_length_le (by rw [Cur.leBytes_length]; omega)] at this
      exact this
    have h5 := congrArg Cur.le h4
    rw [Cur.le_bytes_lt _ 4 (Crc.sum_lt _), Cur.le_bytes_lt _ 4 (Crc.sum_lt _)] at h5
    rw [List.take_set, a1] at b1
    rw [← b1] at h5
    refine sum_set (enc38 s) k (by rw [enc38_length]; exact h) y ?_ h5.symm
    intro hy2
    apply hy
    rw [hy2, ← a1, List.getD_eq_getElem?_getD, List.getD_eq_getElem?_getD, List.getElem?_take_of_lt h]
  · rw [List.take_set_of_le h, a1] at b1
    have : enc s2 = enc s := by unfold enc; rw [← b1]
    rw [this] at he
    apply hy
    have h6 := congrArg (fun l => l[k]?) he
    simp only [List.getElem?_set_self (show k < (enc s).length by omega)] at h6
    rw [List.getD_eq_getElem?_getD, h6]
    rfl
end Go.Proofs.Ythfghomnbldmfaa
