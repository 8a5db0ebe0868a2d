/- What the plain laws are about. -/
import Derived.Test.YtgcgijmjlnhdnaaPx11
import Derived.Test.YtgcgijmjlnhdnaaPx12
import Derived.Test.YtgcgijmjlnhdnaaPx7
