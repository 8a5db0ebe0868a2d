/- What the plain laws are about. -/
import Derived.Test.YtgcgijmjlnhdnaaPx11
import Derived.Test.YtgcgijmjlnhdnaaPx12
import Derived.Test.YtgcgijmjlnhdnaaPx13
import Derived.Test.YtgcgijmjlnhdnaaPx14
import Derived.Test.YtgcgijmjlnhdnaaPx15
import Derived.Test.YtgcgijmjlnhdnaaPx7
